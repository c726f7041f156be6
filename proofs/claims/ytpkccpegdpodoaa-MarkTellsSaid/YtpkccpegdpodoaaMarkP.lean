/- Things that are gone: round by round. No program is named here. -/
import Derived.Test.YtpkccpegdpodoaaMarkO
namespace Go.Proofs.Ytpkccpegdpodoaa

def goneK (ks : List Int) (v : Int) (s : List It) : List It := s.mapIdx fun i x => if ks.contains (i : Int) = true then ⟨[], v, false⟩ else x
def clr (ls : List Int) (k : Int) : Int := if ls.contains k = true then -1 else k
def clrK (ls : List Int) (n : Nat) (s : List It) : List It := s.mapIdx fun j x => if j < n then clearL ls x else x
def clrH (ls : List Int) (i : Nat) (x : It) : It := { x with has := (x.has.take i).map (clr ls) ++ x.has.drop i }
def clrI (ls : List Int) (n i : Nat) (s : List It) : List It := (clrK ls n s).modify n (clrH ls i)

theorem goneK_nil (v : Int) (s : List It) : goneK [] v s = s := by
  apply List.ext_getElem?; intro i
  unfold goneK; rw [List.getElem?_mapIdx]
  cases s[i]? <;> simp
theorem goneK_length (ks : List Int) (v : Int) (s : List It) : (goneK ks v s).length = s.length := by simp [goneK]
theorem goneK_get (ks : List Int) (v : Int) (s : List It) (i : Nat) {x : It} (h : s[i]? = some x) : (goneK ks v s)[i]? = some (if ks.contains (i : Int) = true then ⟨[], v, false⟩ else x) := by
  unfold goneK; rw [List.getElem?_mapIdx, h]; rfl
theorem goneK_snoc (ks : List Int) (v : Int) (s : List It) (m : Nat) : goneK (ks ++ [(m : Int)]) v s = (goneK ks v s).modify m (fun _ => ⟨[], v, false⟩) := by
  apply List.ext_getElem?; intro i
  rw [get_modify]
  cases hs : s[i]? with
  | none =>
    have hi : s.length ≤ i := by rw [List.getElem?_eq_none_iff] at hs; exact hs
    rw [List.getElem?_eq_none (by rw [goneK_length]; exact hi), List.getElem?_eq_none (by rw [goneK_length]; exact hi)]
    simp
  | some x =>
    rw [goneK_get _ v s i hs, goneK_get _ v s i hs]
    by_cases e : m = i
    · subst e
      rw [if_pos rfl]; simp
    · rw [if_neg e]
      have : ((ks ++ [(m : Int)]).contains (i : Int)) = ks.contains (i : Int) := by
        rw [Bool.eq_iff_iff, List.contains_iff_mem, List.contains_iff_mem, List.mem_append]
        constructor
        · rintro (h | h)
          · exact h
          · simp only [List.mem_singleton] at h; omega
        · exact .inl
      rw [this]
theorem goneI_eq (ls : List Int) (v : Int) (s : List It) : goneI ls v s = (goneK ls v s).map (clearL ls) := rfl

theorem clrK_length (ls : List Int) (n : Nat) (s : List It) : (clrK ls n s).length = s.length := by simp [clrK]
theorem clrI_length (ls : List Int) (n i : Nat) (s : List It) : (clrI ls n i s).length = s.length := by unfold clrI; simp [clrK]
theorem clrK_get (ls : List Int) (n : Nat) (s : List It) (j : Nat) {x : It} (h : s[j]? = some x) : (clrK ls n s)[j]? = some (if j < n then clearL ls x else x) := by
  unfold clrK; rw [List.getElem?_mapIdx, h]; rfl
theorem clrK_zero (ls : List Int) (s : List It) : clrK ls 0 s = s := by
  apply List.ext_getElem?; intro i
  unfold clrK; rw [List.getElem?_mapIdx]
  cases s[i]? <;> simp
theorem clrK_all (ls : List Int) (s : List It) : clrK ls s.length s = s.map (clearL ls) := by
  apply List.ext_getElem?; intro i
  unfold clrK
  rw [List.getElem?_mapIdx, List.getElem?_map]
  cases hs : s[i]? with
  | none => rfl
  | some x => simp [(List.getElem?_eq_some_iff.1 hs).1]
theorem clrI_zero (ls : List Int) (n : Nat) (s : List It) : clrI ls n 0 s = clrK ls n s := by
  unfold clrI
  apply List.ext_getElem?; intro j
  rw [get_modify]
  split
  · cases (clrK ls n s)[j]? <;> simp [clrH]
  · rfl
theorem clrI_get (ls : List Int) (n i : Nat) (s : List It) {x : It} (h : s[n]? = some x) : (clrI ls n i s)[n]? = some (clrH ls i x) := by
  unfold clrI
  rw [get_modify, if_pos rfl, clrK_get ls n s n h, if_neg (by omega)]; rfl
theorem clrI_step (ls : List Int) (n i : Nat) (s : List It) {x : It} {k : Int} (h : s[n]? = some x) (hk : x.has[i]? = some k) : clrI ls n (i + 1) s = if ls.contains k = true then (clrI ls n i s).modify n (It.sethas i (-1)) else clrI ls n i s := by
  have hi : i < x.has.length := (List.getElem?_eq_some_iff.1 hk).1
  have hH : clrH ls (i + 1) x = if ls.contains k = true then It.sethas i (-1) (clrH ls i x) else clrH ls i x := by
    have hd : x.has.drop i = k :: x.has.drop (i + 1) := by
      rw [List.drop_eq_getElem_cons hi]
      rw [List.getElem?_eq_getElem hi] at hk; injection hk with hk; rw [hk]
    have ht : x.has.take (i + 1) = x.has.take i ++ [k] := by rw [List.take_add_one, hk]; rfl
    have hl : ((x.has.take i).map (clr ls)).length = i := by rw [List.length_map, List.length_take]; omega
    unfold clrH It.sethas
    by_cases hc : ls.contains k = true
    · rw [if_pos hc]
      simp only [ht, hd, List.map_append, List.map_cons, List.map_nil]
      rw [List.set_append_right _ _ (by omega), hl, Nat.sub_self, List.set_cons_zero]
      have : clr ls k = -1 := if_pos hc
      simp [this]
    · rw [if_neg hc]
      simp only [ht, hd, List.map_append, List.map_cons, List.map_nil]
      have : clr ls k = k := if_neg hc
      simp [this]
  apply List.ext_getElem?; intro j
  by_cases e : n = j
  · subst e
    rw [clrI_get ls n (i + 1) s h, hH]
    split
    · rw [get_modify, if_pos rfl, clrI_get ls n i s h]; rfl
    · rw [clrI_get ls n i s h]
  · have hne : ∀ q, (clrI ls n q s)[j]? = (clrK ls n s)[j]? := fun q => by unfold clrI; rw [get_modify, if_neg e]
    rw [hne]
    split
    · rw [get_modify, if_neg e, hne]
    · rw [hne]
theorem clrI_done (ls : List Int) (n : Nat) (s : List It) {x : It} (h : s[n]? = some x) : clrI ls n x.has.length s = clrK ls (n + 1) s := by
  apply List.ext_getElem?; intro j
  by_cases e : n = j
  · subst e
    rw [clrI_get ls n _ s h, clrK_get ls (n + 1) s n h, if_pos (by omega)]
    unfold clrH clearL
    rw [List.take_length, List.drop_length, List.append_nil]; rfl
  · unfold clrI
    rw [get_modify, if_neg e]
    cases hs : s[j]? with
    | none =>
      have hj : s.length ≤ j := by rw [List.getElem?_eq_none_iff] at hs; exact hs
      rw [List.getElem?_eq_none (by rw [clrK_length]; exact hj), List.getElem?_eq_none (by rw [clrK_length]; exact hj)]
    | some y =>
      rw [clrK_get ls n s j hs, clrK_get ls (n + 1) s j hs]
      have e1 : (j < n + 1) ↔ (j < n) := by omega
      simp only [e1]

/-- those that stand so made to stand otherwise, by their numbers -/
def setAll (ks : List Int) (v : Int) (s : List It) : List It := ks.foldl (fun s k => s.modify k.toNat (It.setst v)) s
theorem setAll_snoc (l : List Int) (k : Nat) (x : Int) (v : Int) (s : List It) (h : l[k]? = some x) : setAll (l.take (k + 1)) v s = (setAll (l.take k) v s).modify x.toNat (It.setst v) := by
  unfold setAll
  rw [List.take_add_one, h]; simp
theorem setAll_length (ks : List Int) (v : Int) (s : List It) : (setAll ks v s).length = s.length := by
  unfold setAll
  induction ks generalizing s with
  | nil => rfl
  | cons a l ih => rw [List.foldl_cons, ih]; simp
theorem setAll_get (ks : List Int) (v : Int) : ∀ (s : List It) (i : Nat) (x : It), s[i]? = some x → (∀ k ∈ ks, 0 ≤ k) → (setAll ks v s)[i]? = some (if ks.contains (i : Int) = true then x.setst v else x) := by
  unfold setAll
  induction ks with
  | nil => intro s i x h _; simpa using h
  | cons a l ih =>
    intro s i x h hk
    rw [List.foldl_cons]
    have ha := hk a (by simp)
    by_cases e : a.toNat = i
    · have h2 : (s.modify a.toNat (It.setst v))[i]? = some (x.setst v) := by rw [get_modify, if_pos e, h]; rfl
      rw [ih _ i _ h2 (fun k hk' => hk k (by simp [hk']))]
      have ha2 : a = (i : Int) := by omega
      have hc : (a :: l).contains (i : Int) = true := by rw [List.contains_iff_mem, ha2]; simp
      rw [if_pos hc]
      split <;> rfl
    · have h2 : (s.modify a.toNat (It.setst v))[i]? = some x := by rw [get_modify, if_neg e]; exact h
      rw [ih _ i _ h2 (fun k hk' => hk k (by simp [hk']))]
      have hc : (a :: l).contains (i : Int) = l.contains (i : Int) := by
        rw [Bool.eq_iff_iff, List.contains_iff_mem, List.contains_iff_mem, List.mem_cons]
        constructor
        · rintro (h | h)
          · omega
          · exact h
        · exact .inr
      rw [hc]
theorem setAll_whiten (s : List It) : setAll (are s 2) 0 s = s.map whiten := by
  apply List.ext_getElem?; intro i
  rw [List.getElem?_map]
  cases hs : s[i]? with
  | none =>
    have hi : s.length ≤ i := by rw [List.getElem?_eq_none_iff] at hs; exact hs
    rw [List.getElem?_eq_none (by rw [setAll_length]; exact hi)]; rfl
  | some x =>
    rw [setAll_get _ 0 s i x hs (fun k hk => by
      unfold are at hk
      obtain ⟨n, rfl, -⟩ := (mem_rising _ _).1 hk
      omega)]
    simp only [Option.map_some]
    congr 1
    unfold whiten
    by_cases h2 : x.st = 2
    · rw [if_pos ((are_contains s 2 i).2 (by rw [stAt_get hs, h2])), if_pos h2]
    · rw [if_neg (by rw [are_contains, stAt_get hs]; intro e; injection e with e; exact h2 e), if_neg h2]

end Go.Proofs.Ytpkccpegdpodoaa
