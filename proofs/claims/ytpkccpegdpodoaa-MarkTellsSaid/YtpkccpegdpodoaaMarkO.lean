/- Things that are marked: the deeds; loops over things, round by round. No program is named here. -/
import Derived.Test.YtpkccpegdpodoaaMarkN
namespace Go.Proofs.Ytpkccpegdpodoaa

/-- a deed -/
structure Dd where
  dd : Int
  a : Int
  b : Int
  n : Int
def newE (s : List It) (n : Int) : Int := if n < 0 ∨ 10 < n then 1 else if 100 ≤ s.length then 2 else 0
def hasAt (s : List It) (a : Int) : List Int := (s[a.toNat]?.map It.has).getD []
def heldB (s : List It) (a : Int) : Bool := (s[a.toNat]?.map It.held).getD false
def setL (d : Dd) : List Int := if d.b = -1 then [d.a] else [d.a, d.b]
noncomputable def setE (s : List It) (d : Dd) : Int := if namedE s (setL d) ≠ 0 then namedE s (setL d) else if d.n < 0 ∨ ((hasAt s d.a).length : Int) ≤ d.n then 1 else 0
def setI (kind : Int) (mk : Bool) (d : Dd) (s : List It) : List It :=
  (shadeI mk (if kind = 1 then d.b else (hasAt s d.a).getD d.n.toNat 0) s).modify d.a.toNat (It.sethas d.n.toNat d.b)
noncomputable def holdE (s : List It) (d : Dd) : Int := if namedE s [d.a] ≠ 0 then namedE s [d.a] else if d.dd = 3 ∧ heldB s d.a = false then 8 else 0
def holdI (kind : Int) (mk : Bool) (d : Dd) (s : List It) : List It :=
  (if decide (d.dd = 4) = decide (kind = 1) then shadeI mk d.a s else s).modify d.a.toNat (It.sethl (decide (d.dd = 4)))
def heldN (s : List It) : Nat := s.countP It.held

/-- what a deed comes to: a number, an error, is there marking, the things -/
noncomputable def marksI (kind : Int) (mk : Bool) (s : List It) (d : Dd) : Int × Int × Bool × List It :=
  if d.dd = 1 then (if newE s d.n ≠ 0 then (0, newE s d.n, mk, s) else ((s.length : Int), 0, mk, s ++ [newI (if mk = true then 2 else 0) d.n]))
  else if d.dd = 2 then (if setE s d ≠ 0 then (0, setE s d, mk, s) else (0, 0, mk, setI kind mk d s))
  else if d.dd = 4 ∨ d.dd = 3 then (if holdE s d ≠ 0 then (0, holdE s d, mk, s) else (0, 0, mk, holdI kind mk d s))
  else if d.dd = 6 then (if mk = true then (0, 8, mk, s) else ((heldN s : Int), 0, true, beginI s))
  else if d.dd = 5 then (if mk = false then (0, 8, mk, s) else if d.n < 0 then (0, 1, mk, s) else (((stepsI d.n.toNat s).2 : Int), 0, mk, (stepsI d.n.toNat s).1))
  else if d.dd = 7 then (if mk = false then (0, 8, mk, s) else ((endN s : Int), 0, false, endI s))
  else (0, 7, mk, s)

theorem namedE_zero {s : List It} {l : List Int} (h : namedE s l = 0) : ∀ x ∈ l, ∃ n : Nat, x = (n : Int) ∧ n < s.length ∧ RT (gHas s) (gRoots s) [] n := by
  unfold namedE at h
  split at h
  · rename_i h1
    split at h
    · rename_i h2
      intro x hx
      have a1 := inN_iff.1 (List.all_eq_true.1 h1 x hx)
      have a2 := List.all_eq_true.1 h2 x hx
      exact ⟨x.toNat, by omega, by omega, needed_RT a2⟩
    · cases h
  · cases h

theorem marks_inv {kind : Int} {mk : Bool} {s : List It} (hk : kind = 1 ∨ kind = 2) (h : MInv kind mk s) (d : Dd) : MInv kind (marksI kind mk s d).2.2.1 (marksI kind mk s d).2.2.2 := by
  unfold marksI
  split
  · split
    · exact h
    · rename_i he
      have he' : newE s d.n = 0 := by simpa using he
      unfold newE at he'
      split at he'
      · cases he'
      · split at he'
        · cases he'
        · exact h.new_ (by omega) (by omega)
  split
  · split
    · exact h
    · rename_i he
      have he' : setE s d = 0 := by simpa using he
      unfold setE at he'
      split at he'
      · rename_i h1; exact absurd he' h1
      · rename_i h1
        have hn : namedE s (setL d) = 0 := by simpa using h1
        split at he'
        · cases he'
        · rename_i h2
          have hz := namedE_zero hn
          obtain ⟨a, ha, hal, har⟩ := hz d.a (by unfold setL; split <;> simp)
          have hb : d.b = -1 ∨ ∃ b : Nat, d.b = (b : Int) ∧ b < s.length ∧ RT (gHas s) (gRoots s) [] b := by
            by_cases e : d.b = -1
            · exact .inl e
            · exact .inr (hz d.b (by unfold setL; rw [if_neg e]; simp))
          have hx : s[a]? = some s[a] := List.getElem?_eq_getElem hal
          have hat : hasAt s d.a = (s[a]).has := by unfold hasAt; rw [ha, Int.toNat_natCast, hx]; rfl
          have hnl : d.n.toNat < (s[a]).has.length := by rw [hat] at h2; omega
          have hold : (s[a]).has[d.n.toNat]? = some ((hasAt s d.a).getD d.n.toNat 0) := by
            rw [hat, List.getD_eq_getElem?_getD, List.getElem?_eq_getElem hnl]; rfl
          unfold setI
          generalize hsn : (if kind = 1 then d.b else (hasAt s d.a).getD d.n.toNat 0) = sn
          have hsh := h.shade sn
          rw [ha, Int.toNat_natCast]
          obtain ⟨z, hx', hsame⟩ : ∃ z, (shadeI mk sn s)[a]? = some z ∧ z.has = (s[a]).has := by
            unfold shadeI
            split
            · rw [get_modify]
              split
              · rw [hx]; exact ⟨_, rfl, rfl⟩
              · rw [hx]; exact ⟨_, rfl, rfl⟩
            · rw [hx]; exact ⟨_, rfl, rfl⟩
          refine hsh.set_ (old := (hasAt s d.a).getD d.n.toNat 0) ⟨_, hx', by rw [hsame]; exact hold⟩ ?_ (fun hm hk2 m hm2 => ?_) (fun hm m hm2 h0 => ?_)
          · rcases hb with e | ⟨b, e, e2, e3⟩
            · exact .inl e
            · refine .inr ⟨b, e, by rw [shadeI_length]; exact e2, ?_⟩
              rw [stAt_shade]
              split
              · simp
              · exact (h.need e3).2.1
          · rw [if_neg (by omega)] at hsn
            rw [stAt_shade]
            split
            · simp
            · rename_i hc
              intro h0
              exact hc ⟨hm, by rw [← hsn]; exact hm2, h0⟩
          · rcases hb with e | ⟨b, e, e2, e3⟩
            · omega
            · obtain rfl : b = m := by omega
              rw [stAt_shade] at h0
              split at h0
              · cases h0
              · rename_i hc
                rcases hk with hk | hk
                · exact absurd ⟨hm, by rw [← hsn, if_pos hk]; exact e, h0⟩ hc
                · refine ⟨hk, ?_⟩
                  have hp := (h.need e3).2.2 hm hk h0
                  refine hp.keep (fun i hi => ?_) (fun i hi => .inl ?_) (fun i k he _ => (edge_shade _ _ _ _ _).2 he) (by rw [stAt_shade, if_neg hc]; exact h0)
                  · rw [stAt_shade]
                    split
                    · exact .inr rfl
                    · exact .inl hi
                  · rw [stAt_shade]
                    split
                    · rfl
                    · exact hi
  split
  · rename_i h34
    split
    · exact h
    · rename_i he
      have he' : holdE s d = 0 := by simpa using he
      unfold holdE at he'
      split at he'
      · rename_i h1; exact absurd he' h1
      · rename_i h1
        have hn : namedE s [d.a] = 0 := by simpa using h1
        obtain ⟨a, ha, hal, har⟩ := namedE_zero hn d.a (by simp)
        unfold holdI
        have hneed := h.need har
        rw [ha, Int.toNat_natCast]
        split
        · rename_i hsh
          refine (h.shade _).hold_ (fun hb => ?_) (fun hb hm h0 => ?_)
          · rw [stAt_shade]
            split
            · simp
            · exact hneed.2.1
          · rw [stAt_shade] at h0
            split at h0
            · cases h0
            · rename_i hc; exact absurd ⟨hm, rfl, h0⟩ hc
        · rename_i hsh
          refine h.hold_ (fun hb => hneed.2.1) (fun hb hm h0 => ?_)
          rcases hk with hk | hk
          · rw [hb, hk] at hsh; simp at hsh
          · exact ⟨hk, hneed.2.2 hm hk h0⟩
  split
  · split
    · exact h
    · rename_i hm
      have hm' : mk = false := by simpa using hm
      subst hm'
      exact h.begin_
  split
  · split
    · exact h
    · rename_i hm
      have hm' : mk = true := by simpa using hm
      subst hm'
      split
      · exact h
      · exact h.stepsI _
  split
  · split
    · exact h
    · rename_i hm
      have hm' : mk = true := by simpa using hm
      subst hm'
      exact (h.stepsI _).sweep (stepsI_done _ _ (Nat.le_refl _))
  · exact h

/-! ### round by round -/
def beginK (k : Nat) (s : List It) : List It := s.mapIdx fun i x => if i < k ∧ x.held = true ∧ x.st = 0 then x.setst 1 else x
theorem beginK_zero (s : List It) : beginK 0 s = s := by
  apply List.ext_getElem?; intro i
  unfold beginK
  rw [List.getElem?_mapIdx]
  cases s[i]? <;> simp
theorem beginK_all (s : List It) : beginK s.length s = beginI s := by
  apply List.ext_getElem?; intro i
  unfold beginK
  rw [List.getElem?_mapIdx, beginI_get]
  cases hs : s[i]? with
  | none => rfl
  | some x => simp [(List.getElem?_eq_some_iff.1 hs).1]
theorem beginK_length (k : Nat) (s : List It) : (beginK k s).length = s.length := by simp [beginK]
theorem beginK_get (k : Nat) (s : List It) (i : Nat) {x : It} (h : s[i]? = some x) : (beginK k s)[i]? = some (if i < k ∧ x.held = true ∧ x.st = 0 then x.setst 1 else x) := by
  unfold beginK; rw [List.getElem?_mapIdx, h]; rfl
theorem beginK_step (k : Nat) (s : List It) {x : It} (h : s[k]? = some x) : beginK (k + 1) s = if x.held = true then shadeI true (k : Int) (beginK k s) else beginK k s := by
  have hk := beginK_get k s k h
  rw [if_neg (by omega)] at hk
  apply List.ext_getElem?; intro i
  cases hs : s[i]? with
  | none =>
    have hi : s.length ≤ i := by rw [List.getElem?_eq_none_iff] at hs; exact hs
    rw [List.getElem?_eq_none (by rw [beginK_length]; exact hi), List.getElem?_eq_none]
    split
    · rw [shadeI_length, beginK_length]; exact hi
    · rw [beginK_length]; exact hi
  | some y =>
    rw [beginK_get (k + 1) s i hs]
    by_cases hx : x.held = true
    · rw [if_pos hx]
      by_cases h0 : x.st = 0
      · have hsI : shadeI true (k : Int) (beginK k s) = (beginK k s).modify k (It.setst 1) := by
          unfold shadeI; rw [if_pos ⟨rfl, by omega, by rw [Int.toNat_natCast, stAt_get hk, h0]⟩, Int.toNat_natCast]
        rw [hsI, get_modify]
        by_cases e : k = i
        · subst e
          rw [h] at hs; injection hs with hs; subst hs
          rw [if_pos rfl, hk, if_pos ⟨by omega, hx, h0⟩]; rfl
        · rw [if_neg e, beginK_get k s i hs]
          have e1 : (i < k + 1) ↔ (i < k) := by omega
          simp only [e1]
      · have hsI : shadeI true (k : Int) (beginK k s) = beginK k s := if_neg (by rintro ⟨-, -, h2⟩; rw [Int.toNat_natCast, stAt_get hk] at h2; injection h2 with h2; exact h0 h2)
        rw [hsI, beginK_get k s i hs]
        by_cases e : i = k
        · subst e
          rw [h] at hs; injection hs with hs; subst hs
          rw [if_neg (by rintro ⟨-, -, h2⟩; exact h0 h2), if_neg (by omega)]
        · have e1 : (i < k + 1) ↔ (i < k) := by omega
          simp only [e1]
    · rw [if_neg hx, beginK_get k s i hs]
      by_cases e : i = k
      · subst e
        rw [h] at hs; injection hs with hs; subst hs
        rw [if_neg (by rintro ⟨-, h2, -⟩; exact hx h2), if_neg (by omega)]
      · have e1 : (i < k + 1) ↔ (i < k) := by omega
        simp only [e1]
theorem heldN_step (s : List It) (k : Nat) {x : It} (h : s[k]? = some x) : heldN (s.take (k + 1)) = heldN (s.take k) + if x.held = true then 1 else 0 := by
  unfold heldN
  rw [List.take_add_one, h]
  simp [List.countP_append, List.countP_cons]
theorem heldN_le (s : List It) : heldN s ≤ s.length := List.countP_le_length

def sweepK (k : Nat) (s : List It) : List It := s.mapIdx fun i x => if i < k then sweep1 x else x
theorem sweepK_zero (s : List It) : sweepK 0 s = s := by
  apply List.ext_getElem?; intro i
  unfold sweepK
  rw [List.getElem?_mapIdx]
  cases s[i]? <;> simp
theorem sweepK_all (s : List It) : sweepK s.length s = s.map sweep1 := by
  apply List.ext_getElem?; intro i
  unfold sweepK
  rw [List.getElem?_mapIdx, List.getElem?_map]
  cases hs : s[i]? with
  | none => rfl
  | some x => simp [(List.getElem?_eq_some_iff.1 hs).1]
theorem sweepK_length (k : Nat) (s : List It) : (sweepK k s).length = s.length := by simp [sweepK]
theorem sweepK_get (k : Nat) (s : List It) (i : Nat) {x : It} (h : s[i]? = some x) : (sweepK k s)[i]? = some (if i < k then sweep1 x else x) := by
  unfold sweepK; rw [List.getElem?_mapIdx, h]; rfl
theorem sweepK_step (k : Nat) (s : List It) (f : It → It) {x : It} (h : s[k]? = some x) (hf : f x = sweep1 x) : sweepK (k + 1) s = (sweepK k s).modify k f := by
  apply List.ext_getElem?; intro i
  rw [get_modify]
  cases hs : s[i]? with
  | none =>
    have hi : s.length ≤ i := by rw [List.getElem?_eq_none_iff] at hs; exact hs
    rw [List.getElem?_eq_none (by rw [sweepK_length]; exact hi), List.getElem?_eq_none (by rw [sweepK_length]; exact hi)]
    simp
  | some y =>
    rw [sweepK_get (k + 1) s i hs, sweepK_get k s i hs]
    by_cases e : k = i
    · subst e
      rw [h] at hs; injection hs with hs; subst hs
      rw [if_pos rfl, if_pos (by omega), if_neg (by omega)]
      simp [hf]
    · rw [if_neg e]
      have e1 : (i < k + 1) ↔ (i < k) := by omega
      simp only [e1]
def whiteN (s : List It) : Nat := s.countP fun x => decide (x.st = 0)
theorem whiteN_step (s : List It) (k : Nat) {x : It} (h : s[k]? = some x) : whiteN (s.take (k + 1)) = whiteN (s.take k) + if x.st = 0 then 1 else 0 := by
  unfold whiteN
  rw [List.take_add_one, h]
  simp [List.countP_append, List.countP_cons]
theorem whiteN_le (s : List It) : whiteN s ≤ s.length := List.countP_le_length
theorem are_whiteN (s : List It) : (are s 0).length = whiteN s := by
  have key : ∀ (l : List Bool) (i : Nat), (risingFrom i l).length = l.countP id := by
    intro l
    induction l with
    | nil => intro i; rfl
    | cons b l ih =>
      intro i
      have h := ih (i + 1)
      cases b with
      | true => simp [risingFrom, h, List.countP_cons]
      | false => simp [risingFrom, h, List.countP_cons]
  unfold are whiteN rising
  rw [key, List.countP_map]
  rfl

end Go.Proofs.Ytpkccpegdpodoaa
