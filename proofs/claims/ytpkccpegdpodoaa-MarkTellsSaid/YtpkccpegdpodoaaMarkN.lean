/- Things that are marked: each deed keeps what is kept; the end. No program is named here. -/
import Derived.Test.YtpkccpegdpodoaaMarkM
namespace Go.Proofs.Ytpkccpegdpodoaa

section
variable {kind : Int} {mk mk' : Bool} {s s' : List It}
theorem MInv.recol (h : MInv kind mk s) (hl : s'.length = s.length) (hx : ∀ (i : Nat) (x x' : It), s[i]? = some x → s'[i]? = some x' → x'.has = x.has ∧ x'.held = x.held ∧ (x'.st = 3 ↔ x.st = 3) ∧ (x'.st = 0 ∨ x'.st = 1 ∨ x'.st = 2 ∨ x'.st = 3))
    (hrest : mk' = false → ∀ x ∈ s', x.st = 0 ∨ x.st = 3) (htri : mk' = true → ∀ y, Bad s' y → kind = 2 ∧ Prot s' y) : MInv kind mk' s' := by
  have back : ∀ x' ∈ s', ∃ (i : Nat) (x : It), s[i]? = some x ∧ s'[i]? = some x' := by
    intro x' hx'
    obtain ⟨i, hi⟩ := List.mem_iff_getElem?.1 hx'
    have : i < s.length := by rw [← hl]; exact (List.getElem?_eq_some_iff.1 hi).1
    exact ⟨i, s[i], List.getElem?_eq_getElem this, hi⟩
  have st3 : ∀ n, stAt s' n = some 3 → stAt s n = some 3 := by
    intro n hn
    obtain ⟨x', h1, h2⟩ := get_stAt hn
    have hlt : n < s.length := by rw [← hl]; exact (List.getElem?_eq_some_iff.1 h1).1
    have h3 : s[n]? = some s[n] := List.getElem?_eq_getElem hlt
    rw [stAt_get h3, (hx n _ _ h3 h1).2.2.1.1 h2]
  refine ⟨by rw [hl]; exact h.small, fun x' hx' => ?_, fun x' hx' k hk => ?_, fun x' hx' => ?_, fun x' hx' h3 => ?_, hrest, htri⟩
  · obtain ⟨i, x, h1, h2⟩ := back x' hx'
    rw [(hx i x x' h1 h2).1]; exact h.long x (List.mem_of_getElem? h1)
  · obtain ⟨i, x, h1, h2⟩ := back x' hx'
    rw [(hx i x x' h1 h2).1] at hk
    rcases h.refs x (List.mem_of_getElem? h1) k hk with e | ⟨n, e, e2, e3⟩
    · exact .inl e
    · exact .inr ⟨n, e, by rw [hl]; exact e2, fun e4 => e3 (st3 n e4)⟩
  · obtain ⟨i, x, h1, h2⟩ := back x' hx'
    exact (hx i x x' h1 h2).2.2.2
  · obtain ⟨i, x, h1, h2⟩ := back x' hx'
    obtain ⟨e1, e2, e3, -⟩ := hx i x x' h1 h2
    rw [e1, e2]
    exact h.gone x (List.mem_of_getElem? h1) (e3.1 h3)
theorem recol_edge (hl : s'.length = s.length) (hx : ∀ (i : Nat) (x x' : It), s[i]? = some x → s'[i]? = some x' → x'.has = x.has ∧ x'.held = x.held) (i k : Nat) : (edge s' i k ↔ edge s i k) ∧ (heldAt s' i ↔ heldAt s i) := by
  by_cases hi : i < s.length
  · have h1 : s[i]? = some s[i] := List.getElem?_eq_getElem hi
    have h2 : s'[i]? = some (s'[i]'(by omega)) := List.getElem?_eq_getElem (by omega)
    obtain ⟨e1, e2⟩ := hx i _ _ h1 h2
    unfold edge heldAt
    rw [h1, h2]
    simp only [Option.some.injEq]
    constructor
    · constructor
      · rintro ⟨x, rfl, h⟩; exact ⟨_, rfl, by rw [← e1]; exact h⟩
      · rintro ⟨x, rfl, h⟩; exact ⟨_, rfl, by rw [e1]; exact h⟩
    · constructor
      · rintro ⟨x, rfl, h⟩; exact ⟨_, rfl, by rw [← e2]; exact h⟩
      · rintro ⟨x, rfl, h⟩; exact ⟨_, rfl, by rw [e2]; exact h⟩
  · have h1 : s[i]? = none := List.getElem?_eq_none (by omega)
    have h2 : s'[i]? = none := List.getElem?_eq_none (by omega)
    unfold edge heldAt
    rw [h1, h2]
    simp

/-! ### one step -/
open Classical in
theorem stAt_step (hg : greyAt s < s.length) (j : Nat) : stAt (stepI s) j = if j = greyAt s then some 2 else if edge s (greyAt s) j ∧ stAt s j = some 0 then some 1 else stAt s j := by
  have hx : s[greyAt s]? = some s[greyAt s] := List.getElem?_eq_getElem hg
  unfold stepI
  rw [stAt_shadeL, stAt_modify, hx]
  by_cases e : j = greyAt s
  · subst e
    rw [if_pos rfl, if_pos rfl, greyAt_st hg]
    rw [if_neg (by simp)]; rfl
  · have e' : ¬ greyAt s = j := fun h => e h.symm
    rw [if_neg e', if_neg e]
    have he : edge s (greyAt s) j ↔ (j : Int) ∈ ((some s[greyAt s]).map It.has).getD [] := by
      unfold edge; rw [hx]; simp
    by_cases h1 : edge s (greyAt s) j ∧ stAt s j = some 0
    · rw [if_pos h1, if_pos ⟨he.1 h1.1, h1.2⟩]
    · rw [if_neg h1, if_neg (fun h2 => h1 ⟨he.2 h2.1, h2.2⟩)]
theorem step_same (hg : greyAt s < s.length) : ∀ (i : Nat) (x x' : It), s[i]? = some x → (stepI s)[i]? = some x' → x'.has = x.has ∧ x'.held = x.held := by
  have key : ∀ (l : List Int) (s : List It) (i : Nat) (x x' : It), s[i]? = some x → (shadeL true l s)[i]? = some x' → x'.has = x.has ∧ x'.held = x.held := by
    intro l
    induction l with
    | nil => intro s i x x' h1 h2; unfold shadeL at h2; rw [List.foldl_nil, h1] at h2; injection h2 with h2; subst h2; exact ⟨rfl, rfl⟩
    | cons a l ih =>
      intro s i x x' h1 h2
      have h2' : (shadeL true l (shadeI true a s))[i]? = some x' := h2
      have hi : i < (shadeI true a s).length := by rw [shadeI_length]; exact (List.getElem?_eq_some_iff.1 h1).1
      have h3 : (shadeI true a s)[i]? = some (shadeI true a s)[i] := List.getElem?_eq_getElem hi
      obtain ⟨e1, e2⟩ := ih _ i _ x' h3 h2'
      rw [e1, e2]
      generalize (shadeI true a s)[i] = z at h3
      unfold shadeI at h3
      split at h3
      · rw [get_modify] at h3
        split at h3
        · rw [h1] at h3; injection h3 with h3; subst h3; exact ⟨rfl, rfl⟩
        · rw [h1] at h3; injection h3 with h3; subst h3; exact ⟨rfl, rfl⟩
      · rw [h1] at h3; injection h3 with h3; subst h3; exact ⟨rfl, rfl⟩
  intro i x x' h1 h2
  unfold stepI at h2
  by_cases e : greyAt s = i
  · have h3 : (s.modify (greyAt s) (It.setst 2))[i]? = some (x.setst 2) := by rw [get_modify, if_pos e, h1]; rfl
    exact key _ _ i (x.setst 2) x' h3 h2
  · have h3 : (s.modify (greyAt s) (It.setst 2))[i]? = some x := by rw [get_modify, if_neg e, h1]
    exact key _ _ i _ x' h3 h2
theorem MInv.stepI (h : MInv kind true s) (hg : greyAt s < s.length) : MInv kind true (stepI s) := by
  have hs := stAt_step hg
  have hsame := step_same hg
  have hl := stepI_length s
  have hed := fun i k => recol_edge hl hsame i k
  have g1 := greyAt_st hg
  refine h.recol hl (fun i x x' h1 h2 => ?_) (fun e => by cases e) (fun _ y hb => ?_)
  · obtain ⟨e1, e2⟩ := hsame i x x' h1 h2
    refine ⟨e1, e2, ?_⟩
    have hst := hs i
    rw [stAt_get h2, stAt_get h1] at hst
    split at hst
    · rename_i e
      injection hst with hst
      rw [← e, stAt_get h1] at g1
      injection g1 with g1
      rw [hst, g1]; simp
    · split at hst
      · rename_i e
        injection hst with hst
        have e3 := e.2
        injection e3 with e3
        rw [hst, e3]; simp
      · injection hst with hst
        rw [hst]
        exact ⟨Iff.rfl, h.sts x (List.mem_of_getElem? h1)⟩
  · obtain ⟨h0, hb⟩ := hb
    have hy : y ≠ greyAt s ∧ ¬ (edge s (greyAt s) y ∧ stAt s y = some 0) ∧ stAt s y = some 0 := by
      rw [hs] at h0
      split at h0
      · cases h0
      · split at h0
        · cases h0
        · exact ⟨by assumption, by assumption, h0⟩
    have hbad : Bad s y := by
      refine ⟨hy.2.2, ?_⟩
      rcases hb with hb | ⟨x, h2, he⟩
      · exact .inl ((hed y 0).2.1 hb)
      · have he' := (hed x y).1.1 he
        refine .inr ⟨x, ?_, he'⟩
        rw [hs] at h2
        split at h2
        · rename_i e
          subst e
          exact absurd ⟨he', hy.2.2⟩ hy.2.1
        · split at h2
          · cases h2
          · exact h2
    obtain ⟨hk, hp⟩ := h.tri rfl y hbad
    refine ⟨hk, hp.keep (fun i hi => ?_) (fun i hi => ?_) (fun i k he _ => (hed i k).1.2 he) h0⟩
    · rw [hs]
      split
      · rename_i e; subst e; rw [g1] at hi; cases hi
      · split
        · exact .inr rfl
        · exact .inl hi
    · by_cases e : i = greyAt s
      · right
        intro k he hk0
        rw [hs]
        split
        · simp
        · rw [if_pos ⟨by rw [← e]; exact he, hk0⟩]; simp
      · left
        rw [hs, if_neg e]
        split
        · rfl
        · exact hi
theorem MInv.stepsI (h : MInv kind true s) (n : Nat) : MInv kind true (stepsI n s).1 := by
  induction n generalizing s with
  | zero => exact h
  | succ n ih =>
    unfold Proofs.Ytpkccpegdpodoaa.stepsI
    split
    · rename_i hg
      exact ih (h.stepI hg)
    · exact h

/-! ### the beginning -/
theorem beginI_get (s : List It) (i : Nat) : (beginI s)[i]? = (s[i]?).map fun x => if x.held = true ∧ x.st = 0 then x.setst 1 else x := by unfold beginI; rw [List.getElem?_map]
theorem MInv.begin_ (h : MInv kind false s) : MInv kind true (beginI s) := by
  have hsame : ∀ (i : Nat) (x x' : It), s[i]? = some x → (beginI s)[i]? = some x' → x'.has = x.has ∧ x'.held = x.held ∧ x'.st = if x.held = true ∧ x.st = 0 then 1 else x.st := by
    intro i x x' h1 h2
    rw [beginI_get, h1] at h2
    injection h2 with h2
    subst h2
    by_cases hc : x.held = true ∧ x.st = 0
    · simp only [if_pos hc]; exact ⟨rfl, rfl, rfl⟩
    · simp only [if_neg hc]; exact ⟨trivial, trivial, trivial⟩
  have hl : (beginI s).length = s.length := by simp [beginI]
  have hed := fun i k => recol_edge hl (fun i x x' h1 h2 => ⟨(hsame i x x' h1 h2).1, (hsame i x x' h1 h2).2.1⟩) i k
  refine h.recol hl (fun i x x' h1 h2 => ?_) (fun e => by cases e) (fun _ y hb => ?_)
  · obtain ⟨e1, e2, e3⟩ := hsame i x x' h1 h2
    refine ⟨e1, e2, ?_⟩
    have := h.rest rfl x (List.mem_of_getElem? h1)
    split at e3
    · rename_i e; rw [e3, e.2]; simp
    · rw [e3]; exact ⟨Iff.rfl, by omega⟩
  · exfalso
    obtain ⟨h0, hb⟩ := hb
    have hst : ∀ i v, stAt (beginI s) i = some v → ∃ x, s[i]? = some x ∧ v = if x.held = true ∧ x.st = 0 then 1 else x.st := by
      intro i v hv
      obtain ⟨x', h1, h2⟩ := get_stAt hv
      have hlt : i < s.length := by rw [← hl]; exact (List.getElem?_eq_some_iff.1 h1).1
      have h3 : s[i]? = some s[i] := List.getElem?_eq_getElem hlt
      exact ⟨_, h3, by rw [← h2]; exact (hsame i _ _ h3 h1).2.2⟩
    rcases hb with hb | ⟨x, h2, he⟩
    · obtain ⟨x, hx, hh⟩ := (hed y 0).2.1 hb
      obtain ⟨x2, hx2, e⟩ := hst y 0 h0
      rw [hx] at hx2; injection hx2 with hx2; subst hx2
      split at e
      · cases e
      · rename_i hn; exact hn ⟨hh, e.symm⟩
    · obtain ⟨x2, hx2, e⟩ := hst x 2 h2
      have := h.rest rfl x2 (List.mem_of_getElem? hx2)
      split at e <;> omega

/-! ### a new thing -/
theorem MInv.new_ (h : MInv kind mk s) {n : Int} (hs : s.length < 100) (hn : n ≤ 10) : MInv kind mk (s ++ [newI (if mk = true then 2 else 0) n]) := by
  have hlen : (newI (if mk = true then 2 else 0) n).has.length ≤ 10 := by simp [newI]; omega
  have hhas : ∀ k ∈ (newI (if mk = true then 2 else 0) n).has, k = -1 := fun k hk => by
    simp only [newI, List.mem_replicate] at hk; exact hk.2
  have hold : ∀ i, i < s.length → (s ++ [newI (if mk = true then 2 else 0) n])[i]? = s[i]? := fun i hi => List.getElem?_append_left hi
  have hst : ∀ i, i < s.length → stAt (s ++ [newI (if mk = true then 2 else 0) n]) i = stAt s i := fun i hi => by unfold stAt; rw [hold i hi]
  have hnew : (s ++ [newI (if mk = true then 2 else 0) n])[s.length]? = some (newI (if mk = true then 2 else 0) n) := by simp
  have hcase : ∀ i x, (s ++ [newI (if mk = true then 2 else 0) n])[i]? = some x → s[i]? = some x ∨ i = s.length ∧ x = newI (if mk = true then 2 else 0) n := by
    intro i x hi
    have hlt := (List.getElem?_eq_some_iff.1 hi).1
    rw [List.length_append, List.length_singleton] at hlt
    by_cases e : i < s.length
    · rw [hold i e] at hi; exact .inl hi
    · obtain rfl : i = s.length := by omega
      rw [hnew] at hi; injection hi with hi; exact .inr ⟨rfl, hi.symm⟩
  have hstc : ∀ i v, stAt (s ++ [newI (if mk = true then 2 else 0) n]) i = some v → stAt s i = some v ∨ i = s.length ∧ v = if mk = true then 2 else 0 := by
    intro i v hv
    obtain ⟨x, h1, h2⟩ := get_stAt hv
    rcases hcase i x h1 with h3 | ⟨h3, h4⟩
    · exact .inl (by rw [stAt_get h3, h2])
    · subst h4; exact .inr ⟨h3, h2.symm⟩
  have hedge : ∀ i k, edge (s ++ [newI (if mk = true then 2 else 0) n]) i k ↔ edge s i k := by
    intro i k
    constructor
    · rintro ⟨x, h1, h2⟩
      rcases hcase i x h1 with h3 | ⟨-, h4⟩
      · exact ⟨x, h3, h2⟩
      · subst h4; have := hhas _ h2; omega
    · rintro ⟨x, h1, h2⟩
      exact ⟨x, by rw [hold i (List.getElem?_eq_some_iff.1 h1).1]; exact h1, h2⟩
  have hmem : ∀ x, x ∈ s ++ [newI (if mk = true then 2 else 0) n] → x ∈ s ∨ x = newI (if mk = true then 2 else 0) n := by
    intro x hx; simpa using hx
  refine ⟨by simp; omega, fun x hx => ?_, fun x hx k hk => ?_, fun x hx => ?_, fun x hx h3 => ?_, fun hm x hx => ?_, fun hm y hb => ?_⟩
  · rcases hmem x hx with h1 | rfl
    · exact h.long x h1
    · exact hlen
  · rcases hmem x hx with h1 | rfl
    · rcases h.refs x h1 k hk with e | ⟨m, e, e2, e3⟩
      · exact .inl e
      · exact .inr ⟨m, e, by simp; omega, by rw [hst m e2]; exact e3⟩
    · exact .inl (hhas k hk)
  · rcases hmem x hx with h1 | rfl
    · exact h.sts x h1
    · unfold newI; cases mk <;> simp
  · rcases hmem x hx with h1 | rfl
    · exact h.gone x h1 h3
    · unfold newI at h3; cases mk <;> simp at h3
  · rcases hmem x hx with h1 | rfl
    · exact h.rest hm x h1
    · subst hm; left; rfl
  · obtain ⟨h0, hb⟩ := hb
    subst hm
    have h0s : stAt s y = some 0 := by
      rcases hstc y 0 h0 with h1 | ⟨-, h1⟩
      · exact h1
      · cases h1
    have hyl := stAt_lt h0s
    have hbad : Bad s y := by
      refine ⟨h0s, ?_⟩
      rcases hb with ⟨x, h1, h2⟩ | ⟨x, h1, h2⟩
      · left; rw [hold y hyl] at h1; exact ⟨x, h1, h2⟩
      · have he := (hedge x y).1 h2
        obtain ⟨z, hz, -⟩ := he
        rw [hst x (List.getElem?_eq_some_iff.1 hz).1] at h1
        exact .inr ⟨x, h1, (hedge x y).1 h2⟩
    obtain ⟨hk, hp⟩ := h.tri rfl y hbad
    refine ⟨hk, hp.keep (fun i hi => ?_) (fun i hi => ?_) (fun i k he _ => (hedge i k).2 he) h0⟩
    · left; rw [hst i (stAt_lt hi)]; exact hi
    · left; rw [hst i (stAt_lt hi)]; exact hi

/-! ### held, or not -/
theorem modify_mem {f : It → It} {n : Nat} {x' : It} (h : x' ∈ s.modify n f) : ∃ i x, s[i]? = some x ∧ (s.modify n f)[i]? = some x' ∧ x' = if n = i then f x else x := by
  obtain ⟨i, hi⟩ := List.mem_iff_getElem?.1 h
  have hi2 := hi
  rw [get_modify] at hi
  split at hi
  · rename_i e
    cases hs : s[i]? with
    | none => rw [hs] at hi; cases hi
    | some x => rw [hs] at hi; injection hi with hi; exact ⟨i, x, hs, hi2, by rw [if_pos e]; exact hi.symm⟩
  · rename_i e
    exact ⟨i, x', hi, hi2, by rw [if_neg e]⟩
theorem MInv.hold_ (h : MInv kind mk s) {n : Nat} {b : Bool} (hn3 : b = true → stAt s n ≠ some 3) (hn : b = true → mk = true → stAt s n = some 0 → kind = 2 ∧ Prot s n) : MInv kind mk (s.modify n (It.sethl b)) := by
  have hst : ∀ i, stAt (s.modify n (It.sethl b)) i = stAt s i := by
    intro i; unfold stAt; rw [get_modify]
    split
    · cases s[i]? <;> rfl
    · rfl
  have hed : ∀ i k, edge (s.modify n (It.sethl b)) i k ↔ edge s i k := by
    intro i k; unfold edge; rw [get_modify]
    split
    · cases s[i]? <;> simp [It.sethl]
    · exact Iff.rfl
  have hhl : ∀ i, heldAt (s.modify n (It.sethl b)) i → heldAt s i ∨ n = i ∧ b = true := by
    rintro i ⟨x', h1, h2⟩
    rw [get_modify] at h1
    split at h1
    · rename_i e
      cases hs : s[i]? with
      | none => rw [hs] at h1; cases h1
      | some x => rw [hs] at h1; injection h1 with h1; subst h1; exact .inr ⟨e, h2⟩
    · exact .inl ⟨x', h1, h2⟩
  have keep : ∀ y, stAt s y = some 0 → Prot s y → Prot (s.modify n (It.sethl b)) y := fun y h0 hp => hp.keep (fun i hi => .inl (by rw [hst]; exact hi)) (fun i hi => .inl (by rw [hst]; exact hi)) (fun i k he _ => (hed i k).2 he) (by rw [hst]; exact h0)
  refine ⟨by simpa using h.small, fun x' hx => ?_, fun x' hx k hk => ?_, fun x' hx => ?_, fun x' hx h3 => ?_, fun hm x' hx => ?_, fun hm y hb => ?_⟩
  · obtain ⟨i, x, h1, -, rfl⟩ := modify_mem hx
    have := h.long x (List.mem_of_getElem? h1)
    split <;> exact this
  · obtain ⟨i, x, h1, -, rfl⟩ := modify_mem hx
    have := h.refs x (List.mem_of_getElem? h1) k (by split at hk <;> exact hk)
    rcases this with e | ⟨m, e, e2, e3⟩
    · exact .inl e
    · exact .inr ⟨m, e, by simpa using e2, by rw [hst]; exact e3⟩
  · obtain ⟨i, x, h1, -, rfl⟩ := modify_mem hx
    have := h.sts x (List.mem_of_getElem? h1)
    split <;> exact this
  · obtain ⟨i, x, h1, -, rfl⟩ := modify_mem hx
    have h3' : x.st = 3 := by split at h3 <;> exact h3
    have hg := h.gone x (List.mem_of_getElem? h1) h3'
    split
    · rename_i e
      subst e
      refine ⟨hg.1, ?_⟩
      cases b with
      | false => rfl
      | true => exact absurd (by rw [stAt_get h1, h3']) (hn3 rfl)
    · exact hg
  · obtain ⟨i, x, h1, -, rfl⟩ := modify_mem hx
    have := h.rest hm x (List.mem_of_getElem? h1)
    split <;> exact this
  · obtain ⟨h0, hb⟩ := hb
    rw [hst] at h0
    rcases hb with hb | ⟨x, h2, he⟩
    · rcases hhl y hb with h1 | ⟨rfl, rfl⟩
      · obtain ⟨hk, hp⟩ := h.tri hm y ⟨h0, .inl h1⟩
        exact ⟨hk, keep y h0 hp⟩
      · obtain ⟨hk, hp⟩ := hn rfl hm h0
        exact ⟨hk, keep _ h0 hp⟩
    · obtain ⟨hk, hp⟩ := h.tri hm y ⟨h0, .inr ⟨x, by rw [← hst]; exact h2, (hed x y).1 he⟩⟩
      exact ⟨hk, keep y h0 hp⟩

/-! ### a place is set -/
theorem MInv.set_ (h : MInv kind mk s) {a j : Nat} {v : Int} {old : Int} (hold : ∃ x, s[a]? = some x ∧ x.has[j]? = some old) (hv : v = -1 ∨ ∃ m : Nat, v = (m : Int) ∧ m < s.length ∧ stAt s m ≠ some 3)
    (hw : mk = true → kind = 2 → ∀ m : Nat, old = (m : Int) → stAt s m ≠ some 0) (hn : mk = true → ∀ m : Nat, v = (m : Int) → stAt s m = some 0 → kind = 2 ∧ Prot s m) : MInv kind mk (s.modify a (It.sethas j v)) := by
  have hst : ∀ i, stAt (s.modify a (It.sethas j v)) i = stAt s i := by
    intro i; unfold stAt; rw [get_modify]
    split
    · cases s[i]? <;> rfl
    · rfl
  have hhl : ∀ i, heldAt (s.modify a (It.sethas j v)) i → heldAt s i := by
    rintro i ⟨x', h1, h2⟩
    rw [get_modify] at h1
    split at h1
    · cases hs : s[i]? with
      | none => rw [hs] at h1; cases h1
      | some x => rw [hs] at h1; injection h1 with h1; subst h1; exact ⟨x, hs, h2⟩
    · exact ⟨x', h1, h2⟩
  have hed : ∀ i k, edge (s.modify a (It.sethas j v)) i k → edge s i k ∨ v = (k : Int) := by
    rintro i k ⟨x', h1, h2⟩
    rw [get_modify] at h1
    split at h1
    · cases hs : s[i]? with
      | none => rw [hs] at h1; cases h1
      | some x =>
        rw [hs] at h1; injection h1 with h1; subst h1
        rcases List.mem_or_eq_of_mem_set h2 with h3 | h3
        · exact .inl ⟨x, hs, h3⟩
        · exact .inr h3.symm
    · exact .inl ⟨x', h1, h2⟩
  obtain ⟨xa, hxa, hxo⟩ := hold
  have hed2 : ∀ i k, edge s i k → (k : Int) ≠ old → edge (s.modify a (It.sethas j v)) i k := by
    rintro i k ⟨x, h1, h2⟩ hne
    unfold edge
    rw [get_modify, h1]
    split
    · rename_i e
      subst e
      rw [h1] at hxa; injection hxa with hxa; subst hxa
      refine ⟨_, rfl, ?_⟩
      obtain ⟨q, hq⟩ := List.mem_iff_getElem?.1 h2
      have hqj : j ≠ q := fun e => by subst e; rw [hxo] at hq; injection hq with hq; exact hne hq.symm
      show (k : Int) ∈ x.has.set j v
      exact List.mem_of_getElem? (i := q) (by rw [List.getElem?_set_ne hqj]; exact hq)
    · exact ⟨x, rfl, h2⟩
  have keep : mk = true → kind = 2 → ∀ y, stAt s y = some 0 → Prot s y → Prot (s.modify a (It.sethas j v)) y := fun hm hk y h0 hp =>
    hp.keep (fun i hi => .inl (by rw [hst]; exact hi)) (fun i hi => .inl (by rw [hst]; exact hi)) (fun i k he h0' => hed2 i k he (fun e => hw hm hk k e.symm (by rw [← hst]; exact h0'))) (by rw [hst]; exact h0)
  refine ⟨by simpa using h.small, fun x' hx => ?_, fun x' hx k hk => ?_, fun x' hx => ?_, fun x' hx h3 => ?_, fun hm x' hx => ?_, fun hm y hb => ?_⟩
  · obtain ⟨i, x, h1, -, rfl⟩ := modify_mem hx
    have := h.long x (List.mem_of_getElem? h1)
    split
    · simpa [It.sethas] using this
    · exact this
  · obtain ⟨i, x, h1, -, rfl⟩ := modify_mem hx
    have hc : k ∈ x.has ∨ k = v := by
      split at hk
      · exact List.mem_or_eq_of_mem_set hk
      · exact .inl hk
    rcases hc with hc | rfl
    · rcases h.refs x (List.mem_of_getElem? h1) k hc with e | ⟨m, e, e2, e3⟩
      · exact .inl e
      · exact .inr ⟨m, e, by simpa using e2, by rw [hst]; exact e3⟩
    · rcases hv with e | ⟨m, e, e2, e3⟩
      · exact .inl e
      · exact .inr ⟨m, e, by simpa using e2, by rw [hst]; exact e3⟩
  · obtain ⟨i, x, h1, -, rfl⟩ := modify_mem hx
    have := h.sts x (List.mem_of_getElem? h1)
    split <;> exact this
  · obtain ⟨i, x, h1, -, rfl⟩ := modify_mem hx
    have h3' : x.st = 3 := by split at h3 <;> exact h3
    have hg := h.gone x (List.mem_of_getElem? h1) h3'
    split
    · refine ⟨?_, hg.2⟩
      simp [It.sethas, hg.1]
    · exact hg
  · obtain ⟨i, x, h1, -, rfl⟩ := modify_mem hx
    have := h.rest hm x (List.mem_of_getElem? h1)
    split <;> exact this
  · obtain ⟨h0, hb⟩ := hb
    rw [hst] at h0
    have hc : (Bad s y) ∨ v = (y : Int) := by
      rcases hb with hb | ⟨x, h2, he⟩
      · exact .inl ⟨h0, .inl (hhl y hb)⟩
      · rcases hed x y he with h1 | h1
        · exact .inl ⟨h0, .inr ⟨x, by rw [← hst]; exact h2, h1⟩⟩
        · exact .inr h1
    have hp : kind = 2 ∧ Prot s y := by
      rcases hc with hc | hc
      · exact h.tri hm y hc
      · exact hn hm y hc h0
    exact ⟨hp.1, keep hm hp.1 y h0 hp.2⟩

/-! ### the end -/
def clearL (l : List Int) (x : It) : It := { x with has := x.has.map fun k => if l.contains k = true then -1 else k }
def goneI (l : List Int) (v : Int) (s : List It) : List It := (s.mapIdx fun i x => if l.contains (i : Int) = true then ⟨[], v, false⟩ else x).map (clearL l)
theorem are_contains (s : List It) (v : Int) (i : Nat) : (are s v).contains (i : Int) = true ↔ stAt s i = some v := by
  rw [List.contains_iff_mem]
  unfold are
  rw [mem_rising]
  constructor
  · rintro ⟨n, e, h⟩
    obtain rfl : i = n := by omega
    rw [List.getElem?_map] at h
    cases hs : s[i]? with
    | none => rw [hs] at h; cases h
    | some x => rw [hs] at h; injection h with h; rw [stAt_get hs, of_decide_eq_true h]
  · intro h
    obtain ⟨x, h1, h2⟩ := get_stAt h
    exact ⟨i, rfl, by rw [List.getElem?_map, h1]; simp [h2]⟩
/-- nothing is grey: what goes is had by nobody that stays -/
theorem MInv.noBad (h : MInv kind true s) (hg : ¬ greyAt s < s.length) (y : Nat) : ¬ Bad s y := by
  intro hb
  obtain ⟨i, hi⟩ := (h.tri rfl y hb).2.grey
  exact greyAt_none hg i hi
def whiten (x : It) : It := if x.st = 2 then x.setst 0 else x
theorem MInv.sweep_eq (h : MInv kind true s) (hg : ¬ greyAt s < s.length) : goneI (are s 0) 3 (s.map whiten) = s.map sweep1 := by
  apply List.ext_getElem?
  intro i
  unfold goneI
  rw [List.getElem?_map, List.getElem?_mapIdx, List.getElem?_map, List.getElem?_map]
  cases hs : s[i]? with
  | none => rfl
  | some x =>
    simp only [Option.map_some]
    congr 1
    have hst := stAt_get hs
    have hm := List.mem_of_getElem? hs
    have h1 : x.st ≠ 1 := fun e => greyAt_none hg i (by rw [hst, e])
    rcases h.sts x hm with h0 | h0 | h0 | h0
    · rw [if_pos ((are_contains s 0 i).2 (by rw [hst, h0]))]
      unfold sweep1 clearL
      rw [if_pos h0]; rfl
    · exact absurd h0 h1
    · rw [if_neg (by rw [are_contains, hst, h0]; simp)]
      have hw : whiten x = x.setst 0 := if_pos h0
      have hsw : sweep1 x = x.setst 0 := by unfold sweep1; rw [if_neg (by omega), if_pos h0]
      rw [hw, hsw]
      unfold clearL
      have : (x.has.map fun k => if (are s 0).contains k = true then -1 else k) = x.has := by
        rw [List.map_congr_left (g := id)]
        · simp
        · intro k hk
          rw [if_neg]
          · rfl
          · intro hc
            rw [List.contains_iff_mem] at hc
            unfold are at hc
            obtain ⟨n, rfl, -⟩ := (mem_rising _ _).1 hc
            have hc2 : (are s 0).contains (n : Int) = true := by rw [List.contains_iff_mem]; exact hc
            exact h.noBad hg n ⟨(are_contains s 0 n).1 hc2, .inr ⟨i, by rw [hst, h0], x, hs, hk⟩⟩
      simp only [It.setst, this]
    · rw [if_neg (by rw [are_contains, hst, h0]; simp)]
      have hw : whiten x = x := if_neg (by omega)
      have hsw : sweep1 x = x := by unfold sweep1; rw [if_neg (by omega), if_neg (by omega)]
      rw [hw, hsw]
      unfold clearL
      have hg0 := (h.gone x hm h0).1
      cases x
      simp only at hg0
      subst hg0
      rfl
theorem MInv.sweep (h : MInv kind true s) (hg : ¬ greyAt s < s.length) : MInv kind false (s.map sweep1) := by
  have hst : ∀ i, stAt (s.map sweep1) i = some 3 → stAt s i = some 0 ∨ stAt s i = some 3 := by
    intro i hi
    unfold stAt at hi
    rw [List.getElem?_map] at hi
    cases hs : s[i]? with
    | none => rw [hs] at hi; cases hi
    | some x =>
      rw [hs] at hi
      injection hi with hi
      rw [stAt_get hs]
      unfold sweep1 at hi
      split at hi
      · rename_i e; rw [e]; exact .inl rfl
      · split at hi
        · cases hi
        · rw [hi]; exact .inr rfl
  have h1 : ∀ x ∈ s, x.st ≠ 1 := fun x hx e => by
    obtain ⟨i, hi⟩ := List.mem_iff_getElem?.1 hx
    exact greyAt_none hg i (by rw [stAt_get hi, e])
  have hall : ∀ x' ∈ s.map sweep1, ∃ (i : Nat) (x : It), s[i]? = some x ∧ x' = sweep1 x := by
    intro x' hx'
    obtain ⟨x, hx, rfl⟩ := List.mem_map.1 hx'
    obtain ⟨i, hi⟩ := List.mem_iff_getElem?.1 hx
    exact ⟨i, x, hi, rfl⟩
  refine ⟨by simpa using h.small, fun x' hx => ?_, fun x' hx k hk => ?_, fun x' hx => ?_, fun x' hx h3 => ?_, fun _ x' hx => ?_, fun e => by cases e⟩
  · obtain ⟨i, x, hi, rfl⟩ := hall x' hx
    have := h.long x (List.mem_of_getElem? hi)
    unfold sweep1
    split
    · simp
    · split <;> exact this
  · obtain ⟨i, x, hi, rfl⟩ := hall x' hx
    have hm := List.mem_of_getElem? hi
    unfold sweep1 at hk
    split at hk
    · simp at hk
    · rename_i h0
      have hk' : k ∈ x.has := by split at hk <;> exact hk
      rcases h.refs x hm k hk' with e | ⟨m, e, e2, e3⟩
      · exact .inl e
      · refine .inr ⟨m, e, by simpa using e2, fun h3 => ?_⟩
        rcases hst m h3 with h4 | h4
        · have h2 : x.st = 2 := by
            rcases h.sts x hm with h5 | h5 | h5 | h5
            · exact absurd h5 h0
            · exact absurd h5 (h1 x hm)
            · exact h5
            · rw [(h.gone x hm h5).1] at hk'; simp at hk'
          exact h.noBad hg m ⟨h4, .inr ⟨i, by rw [stAt_get hi, h2], x, hi, by rw [← e]; exact hk'⟩⟩
        · exact e3 h4
  · obtain ⟨i, x, hi, rfl⟩ := hall x' hx
    have := h.sts x (List.mem_of_getElem? hi)
    unfold sweep1
    split
    · simp
    · split
      · simp [It.setst]
      · exact this
  · obtain ⟨i, x, hi, rfl⟩ := hall x' hx
    unfold sweep1 at h3 ⊢
    split
    · exact ⟨rfl, rfl⟩
    · rename_i h0
      rw [if_neg h0] at h3
      split
      · rename_i h2; rw [if_pos h2] at h3; simp [It.setst] at h3
      · rename_i h2; rw [if_neg h2] at h3; exact h.gone x (List.mem_of_getElem? hi) h3
  · obtain ⟨i, x, hi, rfl⟩ := hall x' hx
    have hm := List.mem_of_getElem? hi
    have := h.sts x hm
    have := h1 x hm
    unfold sweep1
    split
    · exact .inr rfl
    · split
      · exact .inl rfl
      · right; omega
end

end Go.Proofs.Ytpkccpegdpodoaa
