/- scan: the plain functions: which spans count, meet; which places are the same; the busy numbers, the least free one, the longest span. -/
import Derived.Test.YtljdnadejmkaeaaBase
import Derived.Maps.OwnSet
namespace Go.Proofs.Ytljdnadejmkaeaa
open Go.RowKit

namespace Scn
def counts (s : Int × Int) : Bool := decide (0 ≤ s.1) && decide (s.1 < s.2)
def meet (a b : Int × Int) : Bool := decide (a.1 < b.2) && decide (b.1 < a.2)
def same (a b : Int × Int) : Bool := (decide (0 ≤ a.1) && decide (a.1 = b.1)) || (decide (a.1 = -1) && decide (b.1 = -1) && decide (0 ≤ a.2) && decide (a.2 = b.2))
def hitP (x y a b : Int × Int) : Bool := counts x && counts y && meet x y && same a b
/-- do spans i and k clash? -/
def hit (l at_ : List (Int × Int)) (i k : Nat) : Bool := hitP (l.getD i (0, 0)) (l.getD k (0, 0)) (at_.getD i (0, 0)) (at_.getD k (0, 0))
/-- one in the order: is it busy for n, and by what number? -/
def isBusy (l at_ : List (Int × Int)) (f : Int × Int → Int) (n k : Nat) : Bool := decide (k ≠ n) && decide (0 ≤ f (at_.getD k (0, 0))) && meet (l.getD k (0, 0)) (l.getD n (0, 0))
def busy (l at_ : List (Int × Int)) (f : Int × Int → Int) (n : Nat) (order : List Nat) : List Int := (order.filter (isBusy l at_ f n)).map fun k => f (at_.getD k (0, 0))
/-- the longest one: a step over one of the order -/
def longStep (l at_ : List (Int × Int)) (n : Nat) (out : Int) (k : Nat) : Int :=
  if (decide (k ≠ n) && (decide ((at_.getD k (0, 0)).1 < 0) || !(meet (l.getD k (0, 0)) (l.getD n (0, 0))))) = true then out
  else if out < 0 ∨ (l.getD out.toNat (0, 0)).2 ≤ (l.getD k (0, 0)).2 then (k : Int) else out
def longest (l at_ : List (Int × Int)) (n : Nat) (order : List Nat) : Int := order.foldl (longStep l at_ n) (-1)
def take (l : List (Int × Int)) (regs : Int) (order : List Nat) (r : Nat) (at_ : List (Int × Int)) (n : Nat) : List (Int × Int) :=
  if (r : Int) < regs then at_.set n ((r : Int), (at_.getD n (0, 0)).2)
  else if longest l at_ n order = n then at_
  else (at_.set n ((at_.getD (longest l at_ n order).toNat (0, 0)).1, (at_.getD n (0, 0)).2)).set (longest l at_ n order).toNat (-1, (at_.getD (longest l at_ n order).toNat (0, 0)).2)

theorem busy_snoc {l at_ : List (Int × Int)} {f : Int × Int → Int} {n k j : Nat} {order : List Nat} (h : order[j]? = some k) : busy l at_ f n (order.take (j + 1)) = busy l at_ f n (order.take j) ++ (if isBusy l at_ f n k = true then [f (at_.getD k (0, 0))] else []) := by
  have : order.take (j + 1) = order.take j ++ [k] := by rw [List.take_add_one, h]; rfl
  unfold busy
  rw [this, List.filter_append, List.map_append]
  congr 1
  by_cases hq : isBusy l at_ f n k = true
  · rw [List.filter_cons_of_pos hq, if_pos hq]; rfl
  · rw [List.filter_cons_of_neg hq, if_neg hq]; rfl
theorem longest_snoc {l at_ : List (Int × Int)} {n k j : Nat} {order : List Nat} (h : order[j]? = some k) : longest l at_ n (order.take (j + 1)) = longStep l at_ n (longest l at_ n (order.take j)) k := by
  have : order.take (j + 1) = order.take j ++ [k] := by rw [List.take_add_one, h]; rfl
  unfold longest
  rw [this, List.foldl_append]; rfl
theorem longest_in {l at_ : List (Int × Int)} {n : Nat} : ∀ order : List Nat, longest l at_ n order = -1 ∨ ∃ k : Nat, k ∈ order ∧ longest l at_ n order = k := by
  intro order
  have key : ∀ (order : List Nat) (out : Int), order.foldl (longStep l at_ n) out = out ∨ ∃ k : Nat, k ∈ order ∧ order.foldl (longStep l at_ n) out = k := by
    intro order
    induction order with
    | nil => intro out; exact .inl rfl
    | cons k ks ih =>
      intro out
      rw [List.foldl_cons]
      rcases ih (longStep l at_ n out k) with h | ⟨j, hj, h⟩
      · rw [h]
        unfold longStep
        split
        · exact .inl rfl
        · split
          · exact .inr ⟨k, List.mem_cons_self .., rfl⟩
          · exact .inl rfl
      · exact .inr ⟨j, List.mem_cons_of_mem _ hj, h⟩
  exact key order (-1)

/-- a set of numbers as a datum -/
def setI (b : List Int) : DataW Unit := Maps.setOf (.agg []) (b.map (Lit.int .i64))
theorem any_int (x : Int) : ∀ l : List Int, l.any ((fun y : Lit => y.sameKey (.int .i64 x)) ∘ Lit.int .i64) = l.contains x
  | [] => rfl
  | a :: r => by
    rw [List.any_cons, List.contains_cons, any_int x r]
    congr 1
    show decide (IntKind.i64 = IntKind.i64 ∧ a = x) = (x == a)
    by_cases e : a = x
    · subst e; simp
    · have e' : ¬ x = a := fun h => e h.symm
      simp [e, e']
theorem has_setI (b : List Int) (x : Int) : Maps.has (setI b) (.int .i64 x) = b.contains x := by
  unfold setI
  rw [Maps.has_setOf _ _ _ (fun y hy => by obtain ⟨_, _, rfl⟩ := List.mem_map.1 hy; trivial), List.any_map]
  exact any_int x _
theorem setI_snoc (b : List Int) (x : Int) : setI (b ++ [x]) = (setI b).put (.int .i64 x) (.agg []) := by
  unfold setI; rw [List.map_append, List.map_singleton, Maps.setOf_snoc]
theorem setI_nil : setI [] = .map [] := rfl
end Scn

end Go.Proofs.Ytljdnadejmkaeaa
