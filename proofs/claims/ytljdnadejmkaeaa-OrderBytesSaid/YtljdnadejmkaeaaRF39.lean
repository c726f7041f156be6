/- RF: Ord13. -/
import Derived.Test.YtljdnadejmkaeaaRF38
/- order.Check: what it is made of: lemmas. -/
namespace Go.Proofs.Ytljdnadejmkaeaa
open Go.RowKit

theorem infoRExit : (Try.prog.info? 102).map (fun i => (i.zero, i.size, i.bytes)) = some (some (.agg #[.int .i64 0, .int .i64 0, .slice none 0 0, .slice none 0 0]), 4, 64) := by kernel_rfl
theorem infoBoolA : (Try.prog.info? 4).map (fun i => (i.zero, i.size, i.bytes)) = some (some (.bool false), 1, 1) := by kernel_rfl
theorem own_litA {α : Type} [Flat α] (w : World) (base g n : Nat) (e : TypeId) (cs : Array Value) (l : List α) (hg : g = w.heap.size) (hn : l.length = n) (hb : base ≤ w.heap.size) (hcs : cs.toList = flat l) (hm : n ≤ maxLen) : Own (w.alloc (.cells cs e)) base e (some ⟨g, 0, none⟩) n l := by
  subst hg hn
  have hs : cs.size = l.length * Flat.sz α := by rw [← Array.length_toList, hcs, flat_length]
  exact ⟨flat_length _, .inr ⟨w.heap.size, l.length, cs, rfl, hb, heap_alloc_new w _, Nat.le_refl _, hm, hs, by rw [hcs, List.take_of_length_le (by rw [flat_length]; exact Nat.le_refl _)]⟩⟩
theorem madeBoolA (n : Nat) : (madeCells #[.bool false] n).toList = flat (List.replicate n false) := by
  apply List.ext_getElem?
  intro i
  have e : flat (List.replicate n false) = List.replicate n (Value.bool false) := by
    induction n with
    | zero => rfl
    | succ n ih => rw [List.replicate_succ, flat_cons, ih, List.replicate_succ]; rfl
  rw [e]
  simp only [madeCells, Array.toList_map, Array.toList_range, List.getElem?_map, List.getElem?_replicate]
  by_cases h : i < n
  · simp [h, Nat.mod_one]
  · simp [h]
theorem own_madeA (w : World) (base : Nat) (e : TypeId) (n : Nat) (hb : base ≤ w.heap.size) (hn : n ≤ maxLen) : Own (w.alloc (.cells (madeCells #[.bool false] n) e)) base e (some ⟨w.heap.size, 0, none⟩) n (List.replicate n false) := by
  refine ⟨flat_length _, .inr ⟨w.heap.size, n, madeCells #[.bool false] n, by rw [List.length_replicate], hb, heap_alloc_new w _, by simp, hn, by simp [size_madeCells, Flat.sz], ?_⟩⟩
  rw [← madeBoolA, List.take_of_length_le (by simp [size_madeCells, Flat.sz])]

/-- code whose cells are known -/
def CdAt (w : World) (B : Nat) (c : RC) (OA EA TS TM BS BM : Option Addr) (tsc tmc bsc bmc : Nat) : Prop :=
  At w B OA c.orders ∧ At w B EA c.exits ∧ (⟨c.turn, TS, tsc, TM, tmc⟩ : ExA).rd w B ∧ (⟨c.back, BS, bsc, BM, bmc⟩ : ExA).rd w B
theorem CdAt.below {w w' : World} {B : Nat} {c : RC} {OA EA TS TM BS BM : Option Addr} {tsc tmc bsc bmc : Nat} (h : CdAt w B c OA EA TS TM BS BM tsc tmc bsc bmc) (hb : Below B w w') : CdAt w' B c OA EA TS TM BS BM tsc tmc bsc bmc :=
  ⟨h.1.below hb, h.2.1.below hb, ExA.below h.2.2.1 hb, ExA.below h.2.2.2 hb⟩

/-- all exits, behind one another -/
theorem allExits_at {w w' : World} {B B' : Nat} {c : RC} {OA EA TS TM BS BM : Option Addr} {tsc tmc bsc bmc : Nat} (h : CdAt w B c OA EA TS TM BS BM tsc tmc bsc bmc) {rs : List (Raw 4)} (hrl : rs.length = c.exits.length)
    (hr : ∀ (i : Nat) (r : Raw 4) (x : RE), rs[i]? = some r → c.exits[i]? = some x → Enc.rd w B r.cs x) (hb : Below B w w') (hB : B ≤ B') {XA : Option Addr}
    (hx : At w' B' XA ([(⟨c.turn, TS, tsc, TM, tmc⟩ : ExA).raw, (⟨c.back, BS, bsc, BM, bmc⟩ : ExA).raw] ++ rs)) : At w' B' XA (Ord.allExits c) := by
  refine at_unraw (α := RE) rfl hx (by simp [Ord.allExits, hrl]) (fun i r x hri hxi => ?_)
  match i with
  | 0 => simp [Ord.allExits] at hri hxi; subst hri hxi; exact Enc.more (Enc.below h.2.2.1 hb) hB
  | 1 => simp [Ord.allExits] at hri hxi; subst hri hxi; exact Enc.more (Enc.below h.2.2.2 hb) hB
  | i + 2 =>
    simp [Ord.allExits] at hri hxi
    exact Enc.more (Enc.below (hr i r x hri hxi) hb) hB
theorem makes_short {w : World} {B : Nat} {A : Option Addr} {l : List RE} (h : At w B A l) : ∀ x ∈ l, x.makes.length ≤ 9223372036854775807 := fun x hx => by
  obtain ⟨i, hi⟩ := List.mem_iff_getElem?.1 hx
  obtain ⟨b, o, ey, SA, sc, MA, mc, -, -, hey, -, -, -, -, -, -, -, hm, -⟩ := h.rE_ (List.getElem?_eq_some_iff.1 hi).1
  obtain rfl : ey = x := Option.some.inj (hey.symm.trans hi)
  unfold maxLen at hm; omega

namespace Ord
theorem large_no {x : RE} (h : large x = false) : (places x).length * 16 ≤ 140737488355328 ∧ x.sets.length ≤ 60 ∧ x.makes.length ≤ 300 ∧ ∀ m ∈ x.makes, m.vals.length ≤ 100 := by
  unfold large at h
  simp only [Bool.or_eq_false_iff, decide_eq_false_iff_not] at h
  obtain ⟨⟨h1, h2⟩, h3⟩ := h
  have hw : ∀ m ∈ x.makes, m.vals.length ≤ 100 := fun m hm => by
    have := List.any_eq_false.1 h3 m hm
    simp [wide] at this; omega
  refine ⟨?_, by omega, by omega, hw⟩
  unfold places
  rw [List.length_append, List.length_map]
  have := fm_le (fun m : RM => m.cell :: m.vals) x.makes 101 (fun m hm => by have := hw m hm; simp; omega)
  have h4 : x.makes.length * 101 ≤ 300 * 101 := Nat.mul_le_mul_right _ (by omega)
  omega
theorem large_all {c : RC} (h : tooLarge c = false) : ∀ x ∈ allExits c, large x = false := by
  unfold tooLarge at h
  simp only [Bool.or_eq_false_iff] at h
  intro x hx
  have := List.any_eq_false.1 h.2 x hx
  simpa using this
theorem stK_succ {c : RC} {k : Nat} {x : RO} (h : c.orders[k]? = some x) : stK c (k + 1) = after (stK c k) x := by
  unfold stK
  rw [List.take_add_one, h, Option.toList_some, List.foldl_append]; rfl
theorem after_len (st : St) (x : RO) : (after st x).slots.length = st.slots.length ∧ (after st x).regs.length = st.regs.length := by
  unfold after
  refine ⟨?_, ?_⟩
  · simp only; split
    · rw [List.length_set]
    · rfl
  · simp only; split
    · rw [List.length_set]
    · rfl
theorem fold_len (l : List RO) (st : St) : (l.foldl after st).slots.length = st.slots.length := by
  induction l generalizing st with
  | nil => rfl
  | cons x l ih => rw [List.foldl_cons, ih, (after_len st x).1]
theorem stK_slots (c : RC) (k : Nat) : (stK c k).slots.length = c.slots.toNat := by unfold stK; rw [fold_len]; simp [start]
theorem errK_succ {c : RC} {k : Nat} {x : RO} (h : c.orders[k]? = some x) (h0 : errK c k = 0) : errK c (k + 1) = orderErr (stK c k) x c.slots c.exits := by
  rw [errK, if_neg (by rw [h0]; decide), h]
theorem errK_stays {c : RC} {k n : Nat} (h : errK c k ≠ 0) (hn : k ≤ n) : errK c n = errK c k := by
  obtain ⟨d, rfl⟩ : ∃ d, n = k + d := ⟨n - k, by omega⟩
  clear hn
  induction d with
  | zero => rfl
  | succ d ih => rw [show k + (d + 1) = (k + d) + 1 by omega, errK, if_pos (by rw [ih]; exact h), ih]
theorem err_of_order {c : RC} {k : Nat} (hl : tooLarge c = false) (hb : badNums c = false) (h : errK c k ≠ 0) (hk : k ≤ c.orders.length) : err c = errK c k := by
  unfold err
  rw [hl, hb, errK_stays h hk, if_neg (by decide), if_neg (by decide), if_pos h]
theorem turnK_zero (c : RC) : turnK c 0 = turn0 c := by unfold turnK; rw [if_neg (by omega)]
theorem turnK_at {c : RC} {k : Nat} (h0 : 0 < c.loop) (hk : (k : Int) = c.loop) : turnK c (k + 1) = all_ (stK c k) c.turn := by
  unfold turnK; rw [if_pos (by omega), show c.loop.toNat = k by omega]
theorem turnK_not {c : RC} {k : Nat} (h : ¬ (0 < c.loop ∧ (k : Int) = c.loop)) : turnK c (k + 1) = turnK c k := by
  unfold turnK
  by_cases h1 : 0 < c.loop ∧ c.loop < (k : Int)
  · rw [if_pos h1, if_pos (by omega)]
  · rw [if_neg h1, if_neg (by omega)]
end Ord

end Go.Proofs.Ytljdnadejmkaeaa
