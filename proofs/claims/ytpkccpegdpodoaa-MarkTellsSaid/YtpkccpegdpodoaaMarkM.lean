/- Things that are marked: what every deed keeps; behind the end nobody has what went. No program is named here. -/
import Derived.Test.YtpkccpegdpodoaaMarkL
namespace Go.Proofs.Ytpkccpegdpodoaa

/-- a white one that is led to from a grey one through white ones -/
inductive Prot (s : List It) : Nat → Prop
  | base {i k : Nat} : stAt s i = some 1 → edge s i k → stAt s k = some 0 → Prot s k
  | step {i k : Nat} : Prot s i → edge s i k → stAt s k = some 0 → Prot s k
theorem Prot.white {s : List It} {k : Nat} (h : Prot s k) : stAt s k = some 0 := by cases h <;> assumption
theorem Prot.keep {s s' : List It} (hst : ∀ i, stAt s i = some 0 → stAt s' i = some 0 ∨ stAt s' i = some 1) (hgrey : ∀ i, stAt s i = some 1 → stAt s' i = some 1 ∨ ∀ k, edge s i k → stAt s k = some 0 → stAt s' k ≠ some 0)
    (hedge : ∀ i k, edge s i k → stAt s' k = some 0 → edge s' i k) {y : Nat} (h : Prot s y) : stAt s' y = some 0 → Prot s' y := by
  induction h with
  | base h1 h2 h3 =>
    intro h0
    rcases hgrey _ h1 with h4 | h4
    · exact .base h4 (hedge _ _ h2 h0) h0
    · exact absurd h0 (h4 _ h2 h3)
  | step h1 h2 h3 ih =>
    intro h0
    rcases hst _ h1.white with h4 | h4
    · exact .step (ih h4) (hedge _ _ h2 h0) h0
    · exact .base h4 (hedge _ _ h2 h0) h0
theorem Prot.grey {s : List It} {y : Nat} (h : Prot s y) : ∃ i, stAt s i = some 1 := by
  induction h with
  | base h1 => exact ⟨_, h1⟩
  | step _ _ _ ih => exact ih

/-- a white one that is held, or that a black one has -/
def Bad (s : List It) (y : Nat) : Prop := stAt s y = some 0 ∧ (heldAt s y ∨ ∃ x, stAt s x = some 2 ∧ edge s x y)

structure MInv (kind : Int) (mk : Bool) (s : List It) : Prop where
  small : s.length ≤ 100
  long : ∀ x ∈ s, x.has.length ≤ 10
  refs : ∀ x ∈ s, ∀ k ∈ x.has, k = -1 ∨ ∃ n : Nat, k = (n : Int) ∧ n < s.length ∧ stAt s n ≠ some 3
  sts : ∀ x ∈ s, x.st = 0 ∨ x.st = 1 ∨ x.st = 2 ∨ x.st = 3
  gone : ∀ x ∈ s, x.st = 3 → x.has = [] ∧ x.held = false
  rest : mk = false → ∀ x ∈ s, x.st = 0 ∨ x.st = 3
  tri : mk = true → ∀ y, Bad s y → kind = 2 ∧ Prot s y

theorem MInv.start (kind : Int) : MInv kind false [] := ⟨by simp, by simp, by simp, by simp, by simp, by simp, by simp⟩

/-- the graph of things as edges -/
theorem gHas_length (s : List It) : (gHas s).length = s.length := by simp [gHas]
theorem gHas_edge {s : List It} {n k : Nat} {l : List Int} (hl : (gHas s)[n]? = some l) (hk : (k : Int) ∈ l) : edge s n k := by
  unfold gHas at hl
  rw [List.getElem?_map] at hl
  cases hs : s[n]? with
  | none => rw [hs] at hl; cases hl
  | some x =>
    rw [hs] at hl
    injection hl with hl
    subst hl
    exact ⟨x, hs, (List.mem_filter.1 hk).1⟩
theorem mem_gRoots {s : List It} {x : Int} : x ∈ gRoots s ↔ ∃ n : Nat, x = (n : Int) ∧ heldAt s n := by
  unfold gRoots heldAt
  rw [mem_rising]
  constructor
  · rintro ⟨n, rfl, h⟩
    rw [List.getElem?_map] at h
    cases hs : s[n]? with
    | none => rw [hs] at h; cases h
    | some y => rw [hs] at h; injection h with h; exact ⟨n, rfl, y, by simp [hs], h⟩
  · rintro ⟨n, rfl, y, h1, h2⟩
    exact ⟨n, rfl, by rw [List.getElem?_map, h1]; simp [h2]⟩
theorem needed_RT {s : List It} {n : Nat} (h : (needed s).getD n false = true) : RT (gHas s) (gRoots s) [] n := by
  rw [getD_true] at h
  unfold needed at h
  exact ((fromL_get _ _ _ _).1 h).2

section
variable {kind : Int} {mk : Bool} {s : List It}
theorem MInv.right (h : MInv kind mk s) : Right (gHas s) := by
  intro l hl x hx
  unfold gHas at hl
  obtain ⟨y, hy, rfl⟩ := List.mem_map.1 hl
  have hm := List.mem_filter.1 hx
  rcases h.refs y hy x hm.1 with h1 | ⟨n, h1, h2, -⟩
  · subst h1; simp at hm
  · exact ⟨n, h1, by rw [gHas_length]; exact h2⟩
theorem MInv.rightL (h : MInv kind mk s) : RightL (gHas s).length (gRoots s) := by
  intro x hx
  obtain ⟨n, rfl, y, h1, -⟩ := mem_gRoots.1 hx
  exact ⟨n, rfl, by rw [gHas_length]; exact (List.getElem?_eq_some_iff.1 h1).1⟩
theorem MInv.edge_lt (h : MInv kind mk s) {i k : Nat} (he : edge s i k) : k < s.length ∧ stAt s k ≠ some 3 := by
  obtain ⟨x, hx, hk⟩ := he
  rcases h.refs x (List.mem_of_getElem? hx) _ hk with h1 | ⟨n, h1, h2, h3⟩
  · omega
  · obtain rfl : n = k := by omega
    exact ⟨h2, h3⟩
theorem MInv.held_alive (h : MInv kind mk s) {i : Nat} (he : heldAt s i) : stAt s i ≠ some 3 := by
  obtain ⟨x, hx, hk⟩ := he
  intro e
  rw [stAt_get hx] at e
  injection e with e
  have := (h.gone x (List.mem_of_getElem? hx) e).2
  rw [hk] at this; cases this
theorem MInv.st_cases (h : MInv kind mk s) {i : Nat} (hi : i < s.length) : stAt s i = some 0 ∨ stAt s i = some 1 ∨ stAt s i = some 2 ∨ stAt s i = some 3 := by
  have hx : s[i]? = some s[i] := List.getElem?_eq_getElem hi
  rw [stAt_get hx]
  rcases h.sts _ (List.mem_of_getElem? hx) with h | h | h | h <;> rw [h] <;> simp
/-- what is needed is not gone; if it is white while there is marking of the second kind, it will be come to -/
theorem MInv.need (h : MInv kind mk s) {n : Nat} (hn : RT (gHas s) (gRoots s) [] n) : n < s.length ∧ stAt s n ≠ some 3 ∧ (mk = true → kind = 2 → stAt s n = some 0 → Prot s n) := by
  induction hn with
  | root h1 =>
    obtain ⟨m, e, hm⟩ := mem_gRoots.1 h1
    obtain rfl : m = _ := (Int.ofNat.inj e).symm
    obtain ⟨x, hx, hx2⟩ := hm
    exact ⟨(List.getElem?_eq_some_iff.1 hx).1, h.held_alive ⟨x, hx, hx2⟩, fun h1 _ h0 => (h.tri h1 _ ⟨h0, .inl ⟨x, hx, hx2⟩⟩).2⟩
  | edge hr h1 h2 ih =>
    have he := gHas_edge h1 h2
    have hl := h.edge_lt he
    refine ⟨hl.1, hl.2, fun hm hk h0 => ?_⟩
    obtain ⟨i1, i2, i3⟩ := ih
    rcases h.st_cases i1 with h3 | h3 | h3 | h3
    · exact .step (i3 hm hk h3) he h0
    · exact .base h3 he h0
    · exact (h.tri hm _ ⟨h0, .inr ⟨_, h3, he⟩⟩).2
    · exact absurd h3 i2
  | pair _ h1 => simp at h1
end

/-- a thing turned in its colour, from white to grey -/
theorem MInv.shade {kind : Int} {mk : Bool} {s : List It} (h : MInv kind mk s) (n : Int) : MInv kind mk (shadeI mk n s) := by
  have hmem : ∀ x ∈ shadeI mk n s, ∃ y ∈ s, x.has = y.has ∧ x.held = y.held ∧ (x.st = y.st ∨ x.st = 1 ∧ y.st = 0 ∧ mk = true) := by
    intro x hx
    obtain ⟨i, hi⟩ := List.mem_iff_getElem?.1 hx
    unfold shadeI at hi
    split at hi
    · rename_i hc
      rw [get_modify] at hi
      by_cases e : n.toNat = i
      · rw [if_pos e] at hi
        cases hs : s[i]? with
        | none => rw [hs] at hi; cases hi
        | some y =>
          rw [hs] at hi
          injection hi with hi
          subst hi
          have h0 := hc.2.2
          rw [e, stAt_get hs] at h0
          injection h0 with h0
          exact ⟨y, List.mem_of_getElem? hs, rfl, rfl, .inr ⟨rfl, h0, hc.1⟩⟩
      · rw [if_neg e] at hi
        exact ⟨x, List.mem_of_getElem? hi, rfl, rfl, .inl rfl⟩
    · exact ⟨x, List.mem_of_getElem? hi, rfl, rfl, .inl rfl⟩
  have hst3 : ∀ j, stAt (shadeI mk n s) j = some 3 → stAt s j = some 3 := by
    intro j hj
    rw [stAt_shade] at hj
    split at hj
    · cases hj
    · exact hj
  refine ⟨by rw [shadeI_length]; exact h.small, fun x hx => ?_, fun x hx k hk => ?_, fun x hx => ?_, fun x hx h3 => ?_, fun hm x hx => ?_, fun hm y hb => ?_⟩
  · obtain ⟨y, hy, e, -⟩ := hmem x hx; rw [e]; exact h.long y hy
  · obtain ⟨y, hy, e, -⟩ := hmem x hx
    rw [e] at hk
    rcases h.refs y hy k hk with h1 | ⟨m, h1, h2, h3⟩
    · exact .inl h1
    · exact .inr ⟨m, h1, by rw [shadeI_length]; exact h2, fun e => h3 (hst3 _ e)⟩
  · obtain ⟨y, hy, -, -, e | e⟩ := hmem x hx
    · rw [e]; exact h.sts y hy
    · exact .inr (.inl e.1)
  · obtain ⟨y, hy, e1, e2, e | e⟩ := hmem x hx
    · rw [e1, e2]; exact h.gone y hy (by rw [← e]; exact h3)
    · rw [e.1] at h3; cases h3
  · obtain ⟨y, hy, -, -, e | e⟩ := hmem x hx
    · rw [e]; exact h.rest hm y hy
    · rw [e.2.2] at hm; cases hm
  · obtain ⟨h0, hb⟩ := hb
    have h0s : stAt s y = some 0 := by
      rw [stAt_shade] at h0
      split at h0
      · cases h0
      · exact h0
    have hbad : Bad s y := by
      refine ⟨h0s, ?_⟩
      rcases hb with hb | ⟨x, h2, he⟩
      · exact .inl ((held_shade _ _ _ _).1 hb)
      · refine .inr ⟨x, ?_, (edge_shade _ _ _ _ _).1 he⟩
        rw [stAt_shade] at h2
        split at h2
        · cases h2
        · exact h2
    obtain ⟨hk, hp⟩ := h.tri hm y hbad
    refine ⟨hk, hp.keep (fun i hi => ?_) (fun i hi => .inl ?_) (fun i k he _ => (edge_shade _ _ _ _ _).2 he) h0⟩
    · rw [stAt_shade]
      split
      · exact .inr rfl
      · exact .inl hi
    · rw [stAt_shade]
      split
      · rfl
      · exact hi

end Go.Proofs.Ytpkccpegdpodoaa
