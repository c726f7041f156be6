/- KM: SetI. -/
import Derived.Test.YtdlcooplllimeaaGreatDoorKT1
import Derived.Maps.OwnSet
/- A set of numbers as a map's datum. No program is named here. -/
namespace Go.Proofs.YtdlcooplllimeaaGreatDoor
open Go.RowKit

def setI (b : List Int) : DataW Unit := Maps.setOf (.agg []) (b.map (Lit.int .i64))
theorem setI_any_int (x : Int) : ∀ l : List Int, l.any ((fun y : Lit => y.sameKey (.int .i64 x)) ∘ Lit.int .i64) = l.contains x
  | [] => rfl
  | a :: r => by
    rw [List.any_cons, List.contains_cons, setI_any_int x r]
    congr 1
    show decide (IntKind.i64 = IntKind.i64 ∧ a = x) = (x == a)
    by_cases e : a = x
    · subst e; simp
    · have e' : ¬ x = a := fun h => e h.symm
      simp [e, e']
theorem has_setI (b : List Int) (x : Int) : Maps.has (setI b) (.int .i64 x) = b.contains x := by
  unfold setI
  rw [Maps.has_setOf _ _ _ (fun y hy => by obtain ⟨_, _, rfl⟩ := List.mem_map.1 hy; trivial), List.any_map]
  exact setI_any_int x _
theorem setI_snoc (b : List Int) (x : Int) : setI (b ++ [x]) = (setI b).put (.int .i64 x) (.agg []) := by
  unfold setI; rw [List.map_append, List.map_singleton, Maps.setOf_snoc]
theorem setI_nil : setI [] = .map [] := rfl

/-- numbers as ints -/
def ints (l : List Nat) : List Int := l.map fun k : Nat => (k : Int)
theorem ints_get {l : List Nat} {k : Nat} {x : Int} (h : (ints l)[k]? = some x) : ∃ j : Nat, x = (j : Int) ∧ l[k]? = some j := by
  unfold ints at h
  rw [List.getElem?_map] at h
  cases hq : l[k]? with
  | none => rw [hq] at h; cases h
  | some j => rw [hq] at h; injection h with h; exact ⟨j, h.symm, rfl⟩
theorem ints_length (l : List Nat) : (ints l).length = l.length := by unfold ints; rw [List.length_map]
theorem ints_contains (l : List Nat) (p : Nat) : (ints l).contains (p : Int) = l.contains p := by
  rw [Bool.eq_iff_iff, List.contains_iff_mem, List.contains_iff_mem]
  unfold ints
  rw [List.mem_map]
  constructor
  · rintro ⟨u, hu, he⟩
    have : u = p := by omega
    rw [← this]; exact hu
  · intro h; exact ⟨p, h, rfl⟩
theorem ints_okB {l : List Nat} {n : Nat} (h : ∀ k ∈ l, k < n) (hn : n ≤ 9223372036854775807) : ∀ x ∈ ints l, Flat.ok x := by
  intro x hx
  unfold ints at hx
  obtain ⟨k, hk, rfl⟩ := List.mem_map.1 hx
  have := h k hk
  show I64 _
  unfold I64
  omega
theorem ints_append (l r : List Nat) : ints (l ++ r) = ints l ++ ints r := by unfold ints; rw [List.map_append]

end Go.Proofs.YtdlcooplllimeaaGreatDoor
