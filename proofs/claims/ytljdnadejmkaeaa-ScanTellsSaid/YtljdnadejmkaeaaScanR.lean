/- scan: the reference's places are the program's: the plain law. -/
import Derived.Test.YtljdnadejmkaeaaScanM
namespace Go.Proofs.Ytljdnadejmkaeaa
open Go.RowKit

namespace Scn
/-- those of an order that are busy for n -/
def meets (l at_ : List (Int × Int)) (n : Nat) (order : List Nat) : List Nat := order.filter (isBusy l at_ Prod.fst n)
theorem meets_snoc {l at_ : List (Int × Int)} {n k j : Nat} {order : List Nat} (h : order[j]? = some k) : meets l at_ n (order.take (j + 1)) = meets l at_ n (order.take j) ++ (if isBusy l at_ Prod.fst n k = true then [k] else []) := by
  have : order.take (j + 1) = order.take j ++ [k] := by rw [List.take_add_one, h]; rfl
  unfold meets
  rw [this, List.filter_append]
  congr 1
  by_cases hq : isBusy l at_ Prod.fst n k = true
  · rw [List.filter_cons_of_pos hq, if_pos hq]; rfl
  · rw [List.filter_cons_of_neg hq, if_neg hq]; rfl
theorem meets_sub {l at_ : List (Int × Int)} {n : Nat} {order : List Nat} : ∀ k ∈ meets l at_ n order, k ∈ order := fun k hk => (List.mem_filter.1 hk).1
theorem meets_length (l at_ : List (Int × Int)) (n : Nat) (order : List Nat) : (meets l at_ n order).length ≤ order.length := List.length_filter_le _ _
theorem busy_meets (l at_ : List (Int × Int)) (n : Nat) (order : List Nat) : busy l at_ Prod.fst n order = (meets l at_ n order).map fun k => (at_.getD k (0, 0)).1 := rfl
/-- is a register one of some places'? -/
def takenBy (at_ : List (Int × Int)) (f : Int × Int → Int) (r : Int) (l : List Nat) : Bool := l.any fun k => f (at_.getD k (0, 0)) == r
theorem takenBy_snoc {at_ : List (Int × Int)} {f : Int × Int → Int} {r : Int} {l : List Nat} {j k : Nat} (h : l[j]? = some k) : takenBy at_ f r (l.take (j + 1)) = (takenBy at_ f r (l.take j) || f (at_.getD k (0, 0)) == r) := by
  have : l.take (j + 1) = l.take j ++ [k] := by rw [List.take_add_one, h]; rfl
  unfold takenBy; rw [this, List.any_append]; simp
theorem takenBy_meets (l at_ : List (Int × Int)) (n : Nat) (order : List Nat) (r : Int) : takenBy at_ Prod.fst r (meets l at_ n order) = (busy l at_ Prod.fst n order).contains r := by
  rw [busy_meets, Bool.eq_iff_iff]
  unfold takenBy
  simp only [List.any_eq_true, beq_iff_eq, List.contains_iff_mem, List.mem_map]
/-- is a slot one of those that meet? -/
def takenS (l at_ : List (Int × Int)) (n : Nat) (s : Int) (order : List Nat) : Bool := order.any fun k => decide (k ≠ n) && ((at_.getD k (0, 0)).2 == s) && meet (l.getD k (0, 0)) (l.getD n (0, 0))
theorem takenS_snoc {l at_ : List (Int × Int)} {n : Nat} {s : Int} {order : List Nat} {j k : Nat} (h : order[j]? = some k) : takenS l at_ n s (order.take (j + 1)) = (takenS l at_ n s (order.take j) || (decide (k ≠ n) && ((at_.getD k (0, 0)).2 == s) && meet (l.getD k (0, 0)) (l.getD n (0, 0)))) := by
  have : order.take (j + 1) = order.take j ++ [k] := by rw [List.take_add_one, h]; rfl
  unfold takenS; rw [this, List.any_append]; simp
theorem takenS_busy (l at_ : List (Int × Int)) (n : Nat) (order : List Nat) (s : Int) (hs : 0 ≤ s) : takenS l at_ n s order = (busy l at_ Prod.snd n order).contains s := by
  rw [Bool.eq_iff_iff]
  unfold takenS busy isBusy
  simp only [List.any_eq_true, List.contains_iff_mem, List.mem_map, List.mem_filter, Bool.and_eq_true, decide_eq_true_eq, beq_iff_eq]
  constructor
  · rintro ⟨k, hk, ⟨h1, h2⟩, h3⟩
    exact ⟨k, ⟨hk, ⟨h1, by rw [h2]; exact hs⟩, h3⟩, h2⟩
  · rintro ⟨k, ⟨hk, ⟨h1, -⟩, h3⟩, h2⟩
    exact ⟨k, hk, ⟨h1, h2⟩, h3⟩

/-- a step of the longest one, by the list of those that meet -/
theorem longStep_meets {l at_ : List (Int × Int)} {n k : Nat} {order : List Nat} (hk : k ∈ order) (out : Int) :
    longStep l at_ n out k = if ((decide (k = n) || (meets l at_ n order).contains k) && (decide (out < 0) || decide ((l.getD out.toNat (0, 0)).2 ≤ (l.getD k (0, 0)).2))) = true then (k : Int) else out := by
  have hc : (decide (k = n) || (meets l at_ n order).contains k) = !(decide (k ≠ n) && (decide ((at_.getD k (0, 0)).1 < 0) || !(meet (l.getD k (0, 0)) (l.getD n (0, 0))))) := by
    rw [Bool.eq_iff_iff]
    by_cases hkn : k = n
    · simp [hkn]
    · have : (meets l at_ n order).contains k = (decide (0 ≤ (at_.getD k (0, 0)).1) && meet (l.getD k (0, 0)) (l.getD n (0, 0))) := by
        rw [Bool.eq_iff_iff, List.contains_iff_mem]
        unfold meets isBusy
        rw [List.mem_filter]
        simp [hk, hkn]
      rw [this]
      by_cases h0 : 0 ≤ (at_.getD k (0, 0)).1
      · have h1 : ¬ (at_.getD k (0, 0)).1 < 0 := by omega
        simp [hkn, h0, h1]
      · have h1 : (at_.getD k (0, 0)).1 < 0 := by omega
        simp [hkn, h0, h1]
  rw [hc]
  unfold longStep
  by_cases h : (decide (k ≠ n) && (decide ((at_.getD k (0, 0)).1 < 0) || !(meet (l.getD k (0, 0)) (l.getD n (0, 0))))) = true
  · rw [if_pos h, h]; simp
  · rw [if_neg h]
    have h' : (decide (k ≠ n) && (decide ((at_.getD k (0, 0)).1 < 0) || !(meet (l.getD k (0, 0)) (l.getD n (0, 0))))) = false := by simpa using h
    rw [h']
    simp only [Bool.not_false, Bool.true_and, Bool.or_eq_true, decide_eq_true_eq]

/-- the longest one is n itself, or has a register -/
theorem longest_reg {l at_ : List (Int × Int)} {n : Nat} (order : List Nat) : longest l at_ n order = -1 ∨ longest l at_ n order = n ∨ ∃ k : Nat, longest l at_ n order = k ∧ 0 ≤ (at_.getD k (0, 0)).1 := by
  have key : ∀ (order : List Nat) (o : Int), (o = -1 ∨ o = n ∨ ∃ k : Nat, o = k ∧ 0 ≤ (at_.getD k (0, 0)).1) → (order.foldl (longStep l at_ n) o = -1 ∨ order.foldl (longStep l at_ n) o = n ∨ ∃ k : Nat, order.foldl (longStep l at_ n) o = k ∧ 0 ≤ (at_.getD k (0, 0)).1) := by
    intro order
    induction order with
    | nil => intro o h; exact h
    | cons k ks ih =>
      intro o h
      rw [List.foldl_cons]
      refine ih _ ?_
      unfold longStep
      split
      · exact h
      · rename_i hc
        split
        · by_cases hkn : k = n
          · exact .inr (.inl (by rw [hkn]))
          · refine .inr (.inr ⟨k, rfl, ?_⟩)
            simp only [Bool.and_eq_true, decide_eq_true_eq, Bool.or_eq_true, not_and, not_or] at hc
            have := (hc hkn).1
            omega
        · exact h
  exact key order (-1) (.inl rfl)

theorem longest_some {l at_ : List (Int × Int)} {n : Nat} : ∀ {order : List Nat}, n ∈ order → 0 ≤ longest l at_ n order := by
  intro order hn
  rcases Scn.longest_in (l := l) (at_ := at_) (n := n) order with h | h
  · exfalso
    have mono : ∀ (r : List Nat) (o : Int), 0 ≤ o → 0 ≤ r.foldl (Scn.longStep l at_ n) o := by
      intro r
      induction r with
      | nil => intro o ho; exact ho
      | cons k r ih =>
        intro o ho
        rw [List.foldl_cons]
        refine ih _ ?_
        unfold Scn.longStep
        split
        · exact ho
        · split
          · omega
          · exact ho
    have hit : ∀ (r : List Nat) (o : Int), n ∈ r → 0 ≤ r.foldl (Scn.longStep l at_ n) o := by
      intro r
      induction r with
      | nil => intro o h; cases h
      | cons k r ih =>
        intro o hm
        rw [List.foldl_cons]
        by_cases hk : n = k
        · subst hk
          refine mono r _ ?_
          unfold Scn.longStep
          rw [if_neg (by simp)]
          split <;> omega
        · rcases List.mem_cons.1 hm with h | h
          · exact absurd h hk
          · exact ih _ h
    have := hit order (-1) hn
    unfold Scn.longest at h
    omega
  · obtain ⟨k, _, h⟩ := h; omega

theorem getD_set_ne {l : List (Int × Int)} {i k : Nat} {v : Int × Int} (h : i ≠ k) : (l.set i v).getD k (0, 0) = l.getD k (0, 0) := by
  rw [List.getD_eq_getElem?_getD, List.getElem?_set_ne h, List.getD_eq_getElem?_getD]
theorem getD_set_self {l : List (Int × Int)} {i : Nat} {v : Int × Int} (h : i < l.length) : (l.set i v).getD i (0, 0) = v := by
  rw [List.getD_eq_getElem?_getD, List.getElem?_set_self h]; rfl

/-- those that are still to come have nothing -/
theorem took_fresh (l : List (Int × Int)) (regs : Int) (order : List Nat) (hnd : order.Nodup) (hlt : ∀ k ∈ order, k < l.length) (hr : 0 ≤ regs) : ∀ k j x : Nat, k ≤ j → order[j]? = some x → (took l regs order k).getD x (0, 0) = (-1, -1)
  | 0, j, x, _, hx => by
    unfold took
    rw [List.take_zero, List.foldl_nil, List.getD_eq_getElem?_getD, List.getElem?_replicate, if_pos (hlt x (List.mem_of_getElem? hx))]; rfl
  | k + 1, j, x, hkj, hx => by
    have ih := took_fresh l regs order hnd hlt hr k j x (by omega) hx
    have hj := (List.getElem?_eq_some_iff.1 hx).1
    obtain ⟨n, hn⟩ : ∃ n, order[k]? = some n := ⟨_, List.getElem?_eq_getElem (by omega)⟩
    have hne : n ≠ x := by
      intro e; subst e
      have h1 := (List.getElem?_eq_some_iff.1 hn).2
      have h2 := (List.getElem?_eq_some_iff.1 hx).2
      exact (List.pairwise_iff_getElem.1 hnd k j (by omega) hj (by omega)) (h1.trans h2.symm)
    rw [took_succ l regs order hn]
    generalize took l regs order k = a at ih
    unfold takeStep take
    split
    · rw [getD_set_ne hne]; exact ih
    · split
      · exact ih
      · rename_i _ hlg
        rcases longest_reg (l := l) (at_ := a) (n := n) order with h | h | ⟨q, h, hq⟩
        · rcases longest_in (l := l) (at_ := a) (n := n) order with h' | ⟨k', _, h'⟩
          · rw [h]
            -- the longest one is none: then nothing is there
            have h0 : (-1 : Int).toNat = 0 := rfl
            exfalso
            have := longest_some (l := l) (at_ := a) (order := order) (List.mem_of_getElem? hn)
            omega
          · rw [h] at h'; omega
        · exact absurd h hlg
        · rw [h, Int.toNat_natCast]
          have hqx : q ≠ x := by intro e; subst e; rw [ih] at hq; simp at hq
          rw [getD_set_ne hqx, getD_set_ne hne]; exact ih
theorem take_snd {l : List (Int × Int)} {regs : Int} {order : List Nat} {r : Nat} {a : List (Int × Int)} {n : Nat} (h : ∀ x ∈ a, x.2 = -1) (hn : n < a.length) : ∀ x ∈ take l regs order r a n, x.2 = -1 := by
  have hg : ∀ k, k < a.length → (a.getD k (0, 0)).2 = -1 := fun k hk => by
    rw [List.getD_eq_getElem?_getD, List.getElem?_eq_getElem hk]; exact h _ (List.getElem_mem hk)
  unfold take
  split
  · intro x hx
    rcases List.mem_or_eq_of_mem_set hx with hx | rfl
    · exact h x hx
    · exact hg n hn
  · split
    · exact h
    · intro x hx
      by_cases hl : (longest l a n order).toNat < a.length
      · rcases List.mem_or_eq_of_mem_set hx with hx | rfl
        · rcases List.mem_or_eq_of_mem_set hx with hx | rfl
          · exact h x hx
          · exact hg n hn
        · exact hg _ hl
      · rw [List.set_eq_of_length_le (by rw [List.length_set]; omega)] at hx
        rcases List.mem_or_eq_of_mem_set hx with hx | rfl
        · exact h x hx
        · exact hg n hn
theorem took_snd (l : List (Int × Int)) (regs : Int) (order : List Nat) (hlt : ∀ k ∈ order, k < l.length) : ∀ k, ∀ x ∈ took l regs order k, x.2 = -1
  | 0, x, hx => by
    unfold took at hx
    rw [List.take_zero, List.foldl_nil] at hx
    rw [List.eq_of_mem_replicate hx]
  | k + 1, x, hx => by
    have ih := took_snd l regs order hlt k
    by_cases hk : k < order.length
    · have hn : order[k]? = some order[k] := List.getElem?_eq_getElem hk
      rw [took_succ l regs order hn] at hx
      exact take_snd ih (by rw [took_length]; exact hlt _ (List.getElem_mem hk)) x hx
    · have e : took l regs order (k + 1) = took l regs order k := by unfold took; rw [List.take_of_length_le (by omega), List.take_of_length_le (by omega)]
      rw [e] at hx; exact ih x hx
theorem slotted_fresh (l : List (Int × Int)) (regs : Int) (order : List Nat) (hnd : order.Nodup) (hlt : ∀ k ∈ order, k < l.length) : ∀ k j x : Nat, k ≤ j → order[j]? = some x → ((slotted l regs order k).1.getD x (0, 0)).2 = -1
  | 0, j, x, _, hx => by
    have hxl := hlt x (List.mem_of_getElem? hx)
    have := took_snd l regs order hlt order.length
    unfold slotted
    rw [List.take_zero, List.foldl_nil]
    show ((took l regs order order.length).getD x (0, 0)).2 = -1
    rw [List.getD_eq_getElem?_getD, List.getElem?_eq_getElem (by rw [took_length]; exact hxl)]
    exact this _ (List.getElem_mem _)
  | k + 1, j, x, hkj, hx => by
    have ih := slotted_fresh l regs order hnd hlt k j x (by omega) hx
    have hj := (List.getElem?_eq_some_iff.1 hx).1
    obtain ⟨n, hn⟩ : ∃ n, order[k]? = some n := ⟨_, List.getElem?_eq_getElem (by omega)⟩
    have hne : n ≠ x := by
      intro e; subst e
      have h1 := (List.getElem?_eq_some_iff.1 hn).2
      have h2 := (List.getElem?_eq_some_iff.1 hx).2
      exact (List.pairwise_iff_getElem.1 hnd k j (by omega) hj (by omega)) (h1.trans h2.symm)
    rw [slotted_succ l regs order hn]
    unfold slotStep
    split
    · show ((List.set _ n _).getD x (0, 0)).2 = -1
      rw [getD_set_ne hne]; exact ih
    · exact ih
theorem byFrom_nodup (l : List (Int × Int)) (m : Nat) : (byFrom l m).Nodup := by
  rw [(byFrom_perm l m).nodup_iff]
  exact (counted_rising l m).imp (fun h => by omega)
end Scn

end Go.Proofs.Ytljdnadejmkaeaa
