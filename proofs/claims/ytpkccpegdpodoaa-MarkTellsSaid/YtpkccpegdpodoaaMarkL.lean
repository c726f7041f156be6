/- Things that are marked step by step, the plain law: what each deed does, what stays so, and why nobody has what went. No program is named here. -/
import Derived.Test.YtpkccpegdpodoaaGraphL
namespace Go.Proofs.Ytpkccpegdpodoaa

/-- a thing: its places, how it stands, if it is held -/
structure It where
  has : List Int
  st : Int
  held : Bool

def gHas (s : List It) : List (List Int) := s.map fun x => x.has.filter fun k => decide (0 ≤ k)
def gRoots (s : List It) : List Int := rising (s.map It.held)
noncomputable def needed (s : List It) : List Bool := fromL (gHas s) (gRoots s) []
noncomputable def namedE (s : List It) (l : List Int) : Int := if l.all (inN s.length) = true then (if l.all (fun n => (needed s).getD n.toNat false) = true then 0 else 8) else 5
def are (s : List It) (v : Int) : List Int := rising (s.map fun x => decide (x.st = v))

def It.setst (v : Int) (x : It) : It := { x with st := v }
def It.sethas (j : Nat) (v : Int) (x : It) : It := { x with has := x.has.set j v }
def It.sethl (b : Bool) (x : It) : It := { x with held := b }
def stAt (s : List It) (i : Nat) : Option Int := s[i]?.map It.st
def edge (s : List It) (i k : Nat) : Prop := ∃ x, s[i]? = some x ∧ (k : Int) ∈ x.has
def heldAt (s : List It) (i : Nat) : Prop := ∃ x, s[i]? = some x ∧ x.held = true

def shadeI (mk : Bool) (n : Int) (s : List It) : List It := if mk = true ∧ 0 ≤ n ∧ stAt s n.toNat = some 0 then s.modify n.toNat (It.setst 1) else s
def shadeL (mk : Bool) (l : List Int) (s : List It) : List It := l.foldl (fun s n => shadeI mk n s) s
def greyAt (s : List It) : Nat := s.findIdx fun x => decide (x.st = 1)
def stepI (s : List It) : List It := shadeL true ((s[greyAt s]?.map It.has).getD []) (s.modify (greyAt s) (It.setst 2))
def stepsI : Nat → List It → List It × Nat
  | 0, s => (s, 0)
  | n + 1, s => if greyAt s < s.length then ((stepsI n (stepI s)).1, (stepsI n (stepI s)).2 + 1) else (s, 0)
/-- what is still to be done -/
def pot1 (v : Int) : Nat := if v = 0 then 2 else if v = 1 then 1 else 0
def pot (s : List It) : Nat := (s.map fun x => pot1 x.st).sum
def beginI (s : List It) : List It := s.map fun x => if x.held = true ∧ x.st = 0 then x.setst 1 else x
def sweep1 (x : It) : It := if x.st = 0 then ⟨[], 3, false⟩ else if x.st = 2 then x.setst 0 else x
def endI (s : List It) : List It := (stepsI (pot s) s).1.map sweep1
def endN (s : List It) : Nat := ((stepsI (pot s) s).1).countP fun x => decide (x.st = 0)
def newI (v n : Int) : It := ⟨List.replicate n.toNat (-1), v, true⟩

/-! ### places of a list that is turned in one place -/
section
variable {s : List It} {i j k : Nat} {f : It → It}
theorem get_modify (s : List It) (i j : Nat) (f : It → It) : (s.modify i f)[j]? = if i = j then s[j]?.map f else s[j]? := by
  rw [List.getElem?_modify]
  by_cases h : i = j <;> simp [h]
theorem stAt_modify (v : Int) : stAt (s.modify i (It.setst v)) j = if i = j then (stAt s j).map (fun _ => v) else stAt s j := by
  unfold stAt
  rw [get_modify]
  by_cases h : i = j
  · simp only [h, if_true]
    cases s[j]? <;> rfl
  · rw [if_neg h, if_neg h]
theorem edge_setst (v : Int) : edge (s.modify i (It.setst v)) j k ↔ edge s j k := by
  unfold edge
  rw [get_modify]
  by_cases h : i = j
  · simp only [h, if_true]
    cases s[j]? <;> simp [It.setst]
  · rw [if_neg h]
theorem heldAt_setst (v : Int) : heldAt (s.modify i (It.setst v)) j ↔ heldAt s j := by
  unfold heldAt
  rw [get_modify]
  by_cases h : i = j
  · simp only [h, if_true]
    cases s[j]? <;> simp [It.setst]
  · rw [if_neg h]
theorem stAt_lt {v : Int} (h : stAt s i = some v) : i < s.length := by
  unfold stAt at h
  cases hs : s[i]? with
  | none => rw [hs] at h; cases h
  | some x => exact (List.getElem?_eq_some_iff.1 hs).1
theorem stAt_get {x : It} (h : s[i]? = some x) : stAt s i = some x.st := by unfold stAt; rw [h]; rfl
theorem get_stAt {v : Int} (h : stAt s i = some v) : ∃ x, s[i]? = some x ∧ x.st = v := by
  unfold stAt at h
  cases hs : s[i]? with
  | none => rw [hs] at h; cases h
  | some x => rw [hs] at h; injection h with h; exact ⟨x, rfl, h⟩
end

theorem shadeI_length (mk : Bool) (n : Int) (s : List It) : (shadeI mk n s).length = s.length := by unfold shadeI; split <;> simp
theorem shadeL_length (mk : Bool) (l : List Int) (s : List It) : (shadeL mk l s).length = s.length := by
  unfold shadeL
  induction l generalizing s with
  | nil => rfl
  | cons x l ih => rw [List.foldl_cons, ih, shadeI_length]
theorem shadeL_snoc (mk : Bool) (l : List Int) (k : Nat) (x : Int) (s : List It) (h : l[k]? = some x) : shadeL mk (l.take (k + 1)) s = shadeI mk x (shadeL mk (l.take k) s) := by
  unfold shadeL
  rw [List.take_add_one, h]; simp
theorem stAt_shade (mk : Bool) (n : Int) (s : List It) (j : Nat) : stAt (shadeI mk n s) j = if mk = true ∧ n = (j : Int) ∧ stAt s j = some 0 then some 1 else stAt s j := by
  unfold shadeI
  split
  · rename_i h
    rw [stAt_modify]
    by_cases e : n.toNat = j
    · rw [if_pos e, if_pos ⟨h.1, by omega, by rw [← e]; exact h.2.2⟩, ← e, h.2.2]; rfl
    · rw [if_neg e, if_neg (by rintro ⟨-, h2, -⟩; omega)]
  · rename_i h
    rw [if_neg]
    rintro ⟨h1, rfl, h3⟩
    exact h ⟨h1, by omega, by simpa using h3⟩
theorem edge_shade (mk : Bool) (n : Int) (s : List It) (j k : Nat) : edge (shadeI mk n s) j k ↔ edge s j k := by
  unfold shadeI
  split
  · exact edge_setst _
  · exact Iff.rfl
theorem held_shade (mk : Bool) (n : Int) (s : List It) (j : Nat) : heldAt (shadeI mk n s) j ↔ heldAt s j := by
  unfold shadeI
  split
  · exact heldAt_setst _
  · exact Iff.rfl
theorem stAt_shadeL (l : List Int) (s : List It) (j : Nat) : stAt (shadeL true l s) j = if (j : Int) ∈ l ∧ stAt s j = some 0 then some 1 else stAt s j := by
  unfold shadeL
  induction l generalizing s with
  | nil => simp
  | cons x l ih =>
    rw [List.foldl_cons, ih, stAt_shade]
    by_cases h : x = (j : Int)
    · subst h
      by_cases h0 : stAt s j = some 0
      · simp [h0]
      · simp [h0]
    · have h' : ¬ (j : Int) = x := fun e => h e.symm
      simp [h, h']
theorem edge_shadeL (mk : Bool) (l : List Int) (s : List It) (j k : Nat) : edge (shadeL mk l s) j k ↔ edge s j k := by
  unfold shadeL
  induction l generalizing s with
  | nil => exact Iff.rfl
  | cons x l ih => rw [List.foldl_cons, ih, edge_shade]
theorem held_shadeL (mk : Bool) (l : List Int) (s : List It) (j : Nat) : heldAt (shadeL mk l s) j ↔ heldAt s j := by
  unfold shadeL
  induction l generalizing s with
  | nil => exact Iff.rfl
  | cons x l ih => rw [List.foldl_cons, ih, held_shade]

/-! ### what is still to be done grows less -/
theorem pot_modify {s : List It} {i : Nat} {v u : Int} (h : stAt s i = some v) (hv : pot1 u < pot1 v) : pot (s.modify i (It.setst u)) < pot s := by
  induction s generalizing i with
  | nil => simp [stAt] at h
  | cons x s ih =>
    cases i with
    | zero =>
      simp only [stAt, List.getElem?_cons_zero, Option.map_some, Option.some.injEq] at h
      simp only [pot, List.modify_zero_cons, List.map_cons, List.sum_cons, It.setst]
      rw [h]; omega
    | succ i =>
      have h' : stAt s i = some v := by simpa [stAt] using h
      have := ih h'
      simp only [pot, List.modify_succ_cons, List.map_cons, List.sum_cons] at this ⊢
      omega
theorem pot_shade (mk : Bool) (n : Int) (s : List It) : pot (shadeI mk n s) ≤ pot s := by
  unfold shadeI
  split
  · rename_i h
    exact Nat.le_of_lt (pot_modify h.2.2 (by decide))
  · exact Nat.le_refl _
theorem pot_shadeL (mk : Bool) (l : List Int) (s : List It) : pot (shadeL mk l s) ≤ pot s := by
  unfold shadeL
  induction l generalizing s with
  | nil => exact Nat.le_refl _
  | cons x l ih => exact Nat.le_trans (ih _) (pot_shade _ _ _)
theorem greyAt_st {s : List It} (h : greyAt s < s.length) : stAt s (greyAt s) = some 1 := by
  unfold greyAt at h ⊢
  have := List.findIdx_getElem (w := h)
  simp only [decide_eq_true_eq] at this
  unfold stAt
  rw [List.getElem?_eq_getElem h]
  simp [this]
theorem greyAt_none {s : List It} (h : ¬ greyAt s < s.length) (i : Nat) : stAt s i ≠ some 1 := by
  intro e
  obtain ⟨x, hx, h1⟩ := get_stAt e
  exact h (List.findIdx_lt_length.2 ⟨x, List.mem_of_getElem? hx, by simp [h1]⟩)
theorem pot_step {s : List It} (h : greyAt s < s.length) : pot (stepI s) < pot s := by
  unfold stepI
  exact Nat.lt_of_le_of_lt (pot_shadeL _ _ _) (pot_modify (greyAt_st h) (by decide))
theorem stepI_length (s : List It) : (stepI s).length = s.length := by unfold stepI; rw [shadeL_length]; simp
theorem stepsI_length : ∀ (n : Nat) (s : List It), (stepsI n s).1.length = s.length
  | 0, s => rfl
  | n + 1, s => by
    unfold stepsI
    split
    · rw [stepsI_length n, stepI_length]
    · rfl
theorem stepsI_le : ∀ (n : Nat) (s : List It), (stepsI n s).2 ≤ pot s
  | 0, s => Nat.zero_le _
  | n + 1, s => by
    unfold stepsI
    split
    · rename_i h
      have := stepsI_le n (stepI s)
      have := pot_step h
      simp only
      omega
    · exact Nat.zero_le _
theorem stepsI_done : ∀ (n : Nat) (s : List It), pot s ≤ n → ¬ greyAt (stepsI n s).1 < (stepsI n s).1.length
  | 0, s, h => by
    intro hg
    have := pot_step hg
    simp only [stepsI] at this
    omega
  | n + 1, s, h => by
    unfold stepsI
    split
    · rename_i hg
      exact stepsI_done n _ (by have := pot_step hg; omega)
    · rename_i hg; exact hg
/-- steps as long as there are any, whatever the bound -/
theorem stepsI_more : ∀ (n m : Nat) (s : List It), pot s ≤ n → pot s ≤ m → stepsI n s = stepsI m s
  | 0, 0, _, _, _ => rfl
  | 0, m + 1, s, h, _ => by
    simp only [stepsI]
    rw [if_neg]
    intro hg; have := pot_step hg; omega
  | n + 1, 0, s, _, h => by
    simp only [stepsI]
    rw [if_neg]
    intro hg; have := pot_step hg; omega
  | n + 1, m + 1, s, h1, h2 => by
    unfold stepsI
    split
    · rename_i hg
      have := pot_step hg
      rw [stepsI_more n m (stepI s) (by omega) (by omega)]
    · rfl
theorem stepsAll_step {s : List It} (h : greyAt s < s.length) : (stepsI (pot s) s).1 = (stepsI (pot (stepI s)) (stepI s)).1 := by
  have h1 := pot_step h
  obtain ⟨n, hn⟩ : ∃ n, pot s = n + 1 := ⟨pot s - 1, by omega⟩
  rw [hn]
  have h2 : (stepsI (n + 1) s).1 = (stepsI n (stepI s)).1 := by
    show (if greyAt s < s.length then ((stepsI n (stepI s)).1, (stepsI n (stepI s)).2 + 1) else (s, 0)).1 = _
    rw [if_pos h]
  rw [h2, stepsI_more n (pot (stepI s)) _ (by omega) (Nat.le_refl _)]
theorem stepsAll_none {s : List It} (h : ¬ greyAt s < s.length) : (stepsI (pot s) s).1 = s := by
  cases hp : pot s with
  | zero => rfl
  | succ n => unfold stepsI; rw [if_neg h]

end Go.Proofs.Ytpkccpegdpodoaa
