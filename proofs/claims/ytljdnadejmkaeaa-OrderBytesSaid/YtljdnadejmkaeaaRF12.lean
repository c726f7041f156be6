/- RF: Live4. -/
import Derived.Test.YtljdnadejmkaeaaRF11
/- ir.of: the table of what an operation has. -/
namespace Go.Proofs.Ytljdnadejmkaeaa
open Go.RowKit

namespace Liv
def asksN (op : Int) : Nat := if op = 14 then 3 else if op = 7 ∨ op = 11 ∨ op = 12 ∨ op = 13 ∨ op = 17 then 2 else if op = 4 ∨ op = 5 ∨ op = 6 ∨ op = 8 ∨ op = 9 ∨ op = 10 ∨ op = 15 then 1 else 0
def tells (op : Int) : Bool := decide (op = 1 ∨ op = 2 ∨ op = 3 ∨ op = 7 ∨ op = 8 ∨ op = 10 ∨ op = 13 ∨ op = 15 ∨ op = 16 ∨ op = 18)
def isOp (op : Int) : Bool := decide (1 ≤ op) && decide (op ≤ 19)
end Liv

def OfIr (op : Int) (w : World) (e : Ending) (w' : World) : Prop :=
  ∃ (lo hi ex : Int) (k : Bool), e = .returned (.tuple #[.agg #[.int .i64 (Liv.asksN op : Nat), .int .i64 lo, .int .i64 hi, .bool k, .bool (Liv.tells op), .int .i64 ex], .bool (Liv.isOp op)]) ∧ Below w.heap.size w w'

set_option maxRecDepth 100000 in
theorem ofIr_1 (w : World) : Calls Try.prog 110 #[.int .i64 1] w (OfIr 1 w) := by
  go_enter Try.func110, Try.ntmps110
  go_wp2_with (refine wpList_st rfl 172 (.tmp 2) (.tmp 7) rfl w.heap.size rfl rfl (Blk.new _ _ _) (by kernel_rfl) rfl rfl ?_)
  refine bodyPost_ret (results_cell_tmp rfl _ _ w.heap.size _ _ _ rfl (Blk.new _ _ _).setRow Try.underlying172 rfl (by kernel_rfl)) rfl ?_
  exact ⟨0, 1073741824, 0, false, rfl, bel_setRow ((Below.refl _ _).alloc (Nat.le_refl _) _) (Nat.le_refl _) _⟩
set_option maxRecDepth 100000 in
theorem ofIr_2 (w : World) : Calls Try.prog 110 #[.int .i64 2] w (OfIr 2 w) := by
  go_enter Try.func110, Try.ntmps110
  go_wp2_with (refine wpList_st rfl 172 (.tmp 2) (.tmp 10) rfl w.heap.size rfl rfl (Blk.new _ _ _) (by kernel_rfl) rfl rfl ?_)
  refine bodyPost_ret (results_cell_tmp rfl _ _ w.heap.size _ _ _ rfl (Blk.new _ _ _).setRow Try.underlying172 rfl (by kernel_rfl)) rfl ?_
  exact ⟨0, 0, 0, true, rfl, bel_setRow ((Below.refl _ _).alloc (Nat.le_refl _) _) (Nat.le_refl _) _⟩
set_option maxRecDepth 100000 in
theorem ofIr_3 (w : World) : Calls Try.prog 110 #[.int .i64 3] w (OfIr 3 w) := by
  go_enter Try.func110, Try.ntmps110
  go_wp2_with (refine wpList_st rfl 172 (.tmp 2) (.tmp 13) rfl w.heap.size rfl rfl (Blk.new _ _ _) (by kernel_rfl) rfl rfl ?_)
  refine bodyPost_ret (results_cell_tmp rfl _ _ w.heap.size _ _ _ rfl (Blk.new _ _ _).setRow Try.underlying172 rfl (by kernel_rfl)) rfl ?_
  exact ⟨0, 0, 0, false, rfl, bel_setRow ((Below.refl _ _).alloc (Nat.le_refl _) _) (Nat.le_refl _) _⟩
set_option maxRecDepth 100000 in
theorem ofIr_4 (w : World) : Calls Try.prog 110 #[.int .i64 4] w (OfIr 4 w) := by
  go_enter Try.func110, Try.ntmps110
  go_wp2_with (refine wpList_st rfl 172 (.tmp 2) (.tmp 16) rfl w.heap.size rfl rfl (Blk.new _ _ _) (by kernel_rfl) rfl rfl ?_)
  refine bodyPost_ret (results_cell_tmp rfl _ _ w.heap.size _ _ _ rfl (Blk.new _ _ _).setRow Try.underlying172 rfl (by kernel_rfl)) rfl ?_
  exact ⟨0, 6, 2, false, rfl, bel_setRow ((Below.refl _ _).alloc (Nat.le_refl _) _) (Nat.le_refl _) _⟩
set_option maxRecDepth 100000 in
theorem ofIr_5 (w : World) : Calls Try.prog 110 #[.int .i64 5] w (OfIr 5 w) := by
  go_enter Try.func110, Try.ntmps110
  go_wp2_with (refine wpList_st rfl 172 (.tmp 2) (.tmp 19) rfl w.heap.size rfl rfl (Blk.new _ _ _) (by kernel_rfl) rfl rfl ?_)
  refine bodyPost_ret (results_cell_tmp rfl _ _ w.heap.size _ _ _ rfl (Blk.new _ _ _).setRow Try.underlying172 rfl (by kernel_rfl)) rfl ?_
  exact ⟨0, 1, 2, false, rfl, bel_setRow ((Below.refl _ _).alloc (Nat.le_refl _) _) (Nat.le_refl _) _⟩
set_option maxRecDepth 100000 in
theorem ofIr_6 (w : World) : Calls Try.prog 110 #[.int .i64 6] w (OfIr 6 w) := by
  go_enter Try.func110, Try.ntmps110
  go_wp2_with (refine wpList_st rfl 172 (.tmp 2) (.tmp 22) rfl w.heap.size rfl rfl (Blk.new _ _ _) (by kernel_rfl) rfl rfl ?_)
  refine bodyPost_ret (results_cell_tmp rfl _ _ w.heap.size _ _ _ rfl (Blk.new _ _ _).setRow Try.underlying172 rfl (by kernel_rfl)) rfl ?_
  exact ⟨0, 0, 2, true, rfl, bel_setRow ((Below.refl _ _).alloc (Nat.le_refl _) _) (Nat.le_refl _) _⟩
set_option maxRecDepth 100000 in
theorem ofIr_7 (w : World) : Calls Try.prog 110 #[.int .i64 7] w (OfIr 7 w) := by
  go_enter Try.func110, Try.ntmps110
  go_wp2_with (refine wpList_st rfl 172 (.tmp 2) (.tmp 25) rfl w.heap.size rfl rfl (Blk.new _ _ _) (by kernel_rfl) rfl rfl ?_)
  refine bodyPost_ret (results_cell_tmp rfl _ _ w.heap.size _ _ _ rfl (Blk.new _ _ _).setRow Try.underlying172 rfl (by kernel_rfl)) rfl ?_
  exact ⟨3, 10, 1, false, rfl, bel_setRow ((Below.refl _ _).alloc (Nat.le_refl _) _) (Nat.le_refl _) _⟩
set_option maxRecDepth 100000 in
theorem ofIr_8 (w : World) : Calls Try.prog 110 #[.int .i64 8] w (OfIr 8 w) := by
  go_enter Try.func110, Try.ntmps110
  go_wp2_with (refine wpList_st rfl 172 (.tmp 2) (.tmp 28) rfl w.heap.size rfl rfl (Blk.new _ _ _) (by kernel_rfl) rfl rfl ?_)
  refine bodyPost_ret (results_cell_tmp rfl _ _ w.heap.size _ _ _ rfl (Blk.new _ _ _).setRow Try.underlying172 rfl (by kernel_rfl)) rfl ?_
  exact ⟨11, 12, 1, false, rfl, bel_setRow ((Below.refl _ _).alloc (Nat.le_refl _) _) (Nat.le_refl _) _⟩
set_option maxRecDepth 100000 in
theorem ofIr_9 (w : World) : Calls Try.prog 110 #[.int .i64 9] w (OfIr 9 w) := by
  go_enter Try.func110, Try.ntmps110
  go_wp2_with (refine wpList_st rfl 172 (.tmp 2) (.tmp 31) rfl w.heap.size rfl rfl (Blk.new _ _ _) (by kernel_rfl) rfl rfl ?_)
  refine bodyPost_ret (results_cell_tmp rfl _ _ w.heap.size _ _ _ rfl (Blk.new _ _ _).setRow Try.underlying172 rfl (by kernel_rfl)) rfl ?_
  exact ⟨1, 7, 2, false, rfl, bel_setRow ((Below.refl _ _).alloc (Nat.le_refl _) _) (Nat.le_refl _) _⟩
set_option maxRecDepth 100000 in
theorem ofIr_10 (w : World) : Calls Try.prog 110 #[.int .i64 10] w (OfIr 10 w) := by
  go_enter Try.func110, Try.ntmps110
  go_wp2_with (refine wpList_st rfl 172 (.tmp 2) (.tmp 34) rfl w.heap.size rfl rfl (Blk.new _ _ _) (by kernel_rfl) rfl rfl ?_)
  refine bodyPost_ret (results_cell_tmp rfl _ _ w.heap.size _ _ _ rfl (Blk.new _ _ _).setRow Try.underlying172 rfl (by kernel_rfl)) rfl ?_
  exact ⟨0, 99, 0, false, rfl, bel_setRow ((Below.refl _ _).alloc (Nat.le_refl _) _) (Nat.le_refl _) _⟩
set_option maxRecDepth 100000 in
theorem ofIr_11 (w : World) : Calls Try.prog 110 #[.int .i64 11] w (OfIr 11 w) := by
  go_enter Try.func110, Try.ntmps110
  go_wp2_with (refine wpList_st rfl 172 (.tmp 2) (.tmp 37) rfl w.heap.size rfl rfl (Blk.new _ _ _) (by kernel_rfl) rfl rfl ?_)
  refine bodyPost_ret (results_cell_tmp rfl _ _ w.heap.size _ _ _ rfl (Blk.new _ _ _).setRow Try.underlying172 rfl (by kernel_rfl)) rfl ?_
  exact ⟨0, 99, 0, false, rfl, bel_setRow ((Below.refl _ _).alloc (Nat.le_refl _) _) (Nat.le_refl _) _⟩
set_option maxRecDepth 100000 in
theorem ofIr_12 (w : World) : Calls Try.prog 110 #[.int .i64 12] w (OfIr 12 w) := by
  go_enter Try.func110, Try.ntmps110
  go_wp2_with (refine wpList_st rfl 172 (.tmp 2) (.tmp 40) rfl w.heap.size rfl rfl (Blk.new _ _ _) (by kernel_rfl) rfl rfl ?_)
  refine bodyPost_ret (results_cell_tmp rfl _ _ w.heap.size _ _ _ rfl (Blk.new _ _ _).setRow Try.underlying172 rfl (by kernel_rfl)) rfl ?_
  exact ⟨1, 1073741824, 2, false, rfl, bel_setRow ((Below.refl _ _).alloc (Nat.le_refl _) _) (Nat.le_refl _) _⟩
set_option maxRecDepth 100000 in
theorem ofIr_13 (w : World) : Calls Try.prog 110 #[.int .i64 13] w (OfIr 13 w) := by
  go_enter Try.func110, Try.ntmps110
  go_wp2_with (refine wpList_st rfl 172 (.tmp 2) (.tmp 43) rfl w.heap.size rfl rfl (Blk.new _ _ _) (by kernel_rfl) rfl rfl ?_)
  refine bodyPost_ret (results_cell_tmp rfl _ _ w.heap.size _ _ _ rfl (Blk.new _ _ _).setRow Try.underlying172 rfl (by kernel_rfl)) rfl ?_
  exact ⟨0, 0, 2, false, rfl, bel_setRow ((Below.refl _ _).alloc (Nat.le_refl _) _) (Nat.le_refl _) _⟩
set_option maxRecDepth 100000 in
theorem ofIr_14 (w : World) : Calls Try.prog 110 #[.int .i64 14] w (OfIr 14 w) := by
  go_enter Try.func110, Try.ntmps110
  go_wp2_with (refine wpList_st rfl 172 (.tmp 2) (.tmp 46) rfl w.heap.size rfl rfl (Blk.new _ _ _) (by kernel_rfl) rfl rfl ?_)
  refine bodyPost_ret (results_cell_tmp rfl _ _ w.heap.size _ _ _ rfl (Blk.new _ _ _).setRow Try.underlying172 rfl (by kernel_rfl)) rfl ?_
  exact ⟨0, 0, 2, false, rfl, bel_setRow ((Below.refl _ _).alloc (Nat.le_refl _) _) (Nat.le_refl _) _⟩
set_option maxRecDepth 100000 in
theorem ofIr_15 (w : World) : Calls Try.prog 110 #[.int .i64 15] w (OfIr 15 w) := by
  go_enter Try.func110, Try.ntmps110
  go_wp2_with (refine wpList_st rfl 172 (.tmp 2) (.tmp 49) rfl w.heap.size rfl rfl (Blk.new _ _ _) (by kernel_rfl) rfl rfl ?_)
  refine bodyPost_ret (results_cell_tmp rfl _ _ w.heap.size _ _ _ rfl (Blk.new _ _ _).setRow Try.underlying172 rfl (by kernel_rfl)) rfl ?_
  exact ⟨0, 0, 0, false, rfl, bel_setRow ((Below.refl _ _).alloc (Nat.le_refl _) _) (Nat.le_refl _) _⟩
set_option maxRecDepth 100000 in
theorem ofIr_16 (w : World) : Calls Try.prog 110 #[.int .i64 16] w (OfIr 16 w) := by
  go_enter Try.func110, Try.ntmps110
  go_wp2_with (refine wpList_st rfl 172 (.tmp 2) (.tmp 52) rfl w.heap.size rfl rfl (Blk.new _ _ _) (by kernel_rfl) rfl rfl ?_)
  refine bodyPost_ret (results_cell_tmp rfl _ _ w.heap.size _ _ _ rfl (Blk.new _ _ _).setRow Try.underlying172 rfl (by kernel_rfl)) rfl ?_
  exact ⟨1, 3, 2, false, rfl, bel_setRow ((Below.refl _ _).alloc (Nat.le_refl _) _) (Nat.le_refl _) _⟩
set_option maxRecDepth 100000 in
theorem ofIr_17 (w : World) : Calls Try.prog 110 #[.int .i64 17] w (OfIr 17 w) := by
  go_enter Try.func110, Try.ntmps110
  go_wp2_with (refine wpList_st rfl 172 (.tmp 2) (.tmp 55) rfl w.heap.size rfl rfl (Blk.new _ _ _) (by kernel_rfl) rfl rfl ?_)
  refine bodyPost_ret (results_cell_tmp rfl _ _ w.heap.size _ _ _ rfl (Blk.new _ _ _).setRow Try.underlying172 rfl (by kernel_rfl)) rfl ?_
  exact ⟨0, 0, 1, false, rfl, bel_setRow ((Below.refl _ _).alloc (Nat.le_refl _) _) (Nat.le_refl _) _⟩
set_option maxRecDepth 100000 in
theorem ofIr_18 (w : World) : Calls Try.prog 110 #[.int .i64 18] w (OfIr 18 w) := by
  go_enter Try.func110, Try.ntmps110
  go_wp2_with (refine wpList_st rfl 172 (.tmp 2) (.tmp 58) rfl w.heap.size rfl rfl (Blk.new _ _ _) (by kernel_rfl) rfl rfl ?_)
  refine bodyPost_ret (results_cell_tmp rfl _ _ w.heap.size _ _ _ rfl (Blk.new _ _ _).setRow Try.underlying172 rfl (by kernel_rfl)) rfl ?_
  exact ⟨0, 0, 2, false, rfl, bel_setRow ((Below.refl _ _).alloc (Nat.le_refl _) _) (Nat.le_refl _) _⟩
set_option maxRecDepth 100000 in
theorem ofIr_19 (w : World) : Calls Try.prog 110 #[.int .i64 19] w (OfIr 19 w) := by
  go_enter Try.func110, Try.ntmps110
  go_wp2_with (refine wpList_st rfl 172 (.tmp 2) (.tmp 61) rfl w.heap.size rfl rfl (Blk.new _ _ _) (by kernel_rfl) rfl rfl ?_)
  refine bodyPost_ret (results_cell_tmp rfl _ _ w.heap.size _ _ _ rfl (Blk.new _ _ _).setRow Try.underlying172 rfl (by kernel_rfl)) rfl ?_
  exact ⟨1, 1073741824, 2, false, rfl, bel_setRow ((Below.refl _ _).alloc (Nat.le_refl _) _) (Nat.le_refl _) _⟩

set_option maxRecDepth 100000 in
theorem ofIr_any (op : Int) (w : World) : Calls Try.prog 110 #[.int .i64 op] w (OfIr op w) := by
  by_cases h1 : op = 1
  · subst h1; exact ofIr_1 w
  by_cases h2 : op = 2
  · subst h2; exact ofIr_2 w
  by_cases h3 : op = 3
  · subst h3; exact ofIr_3 w
  by_cases h4 : op = 4
  · subst h4; exact ofIr_4 w
  by_cases h5 : op = 5
  · subst h5; exact ofIr_5 w
  by_cases h6 : op = 6
  · subst h6; exact ofIr_6 w
  by_cases h7 : op = 7
  · subst h7; exact ofIr_7 w
  by_cases h8 : op = 8
  · subst h8; exact ofIr_8 w
  by_cases h9 : op = 9
  · subst h9; exact ofIr_9 w
  by_cases h10 : op = 10
  · subst h10; exact ofIr_10 w
  by_cases h11 : op = 11
  · subst h11; exact ofIr_11 w
  by_cases h12 : op = 12
  · subst h12; exact ofIr_12 w
  by_cases h13 : op = 13
  · subst h13; exact ofIr_13 w
  by_cases h14 : op = 14
  · subst h14; exact ofIr_14 w
  by_cases h15 : op = 15
  · subst h15; exact ofIr_15 w
  by_cases h16 : op = 16
  · subst h16; exact ofIr_16 w
  by_cases h17 : op = 17
  · subst h17; exact ofIr_17 w
  by_cases h18 : op = 18
  · subst h18; exact ofIr_18 w
  by_cases h19 : op = 19
  · subst h19; exact ofIr_19 w
  have hT : Liv.tells op = false := by unfold Liv.tells; simp [h1, h2, h3, h7, h8, h10, h13, h15, h16, h18]
  have hA : Liv.asksN op = 0 := by unfold Liv.asksN; simp [h4, h5, h6, h7, h8, h9, h10, h11, h12, h13, h14, h15, h17]
  have hI : Liv.isOp op = false := by unfold Liv.isOp; by_cases q : 1 ≤ op <;> simp [q]; omega
  have HH := Lib.hid (And.intro hT (And.intro hA hI)); clear hT hA hI
  have e1 : (op == 1) = false := by simp [h1]
  have e2 : (op == 2) = false := by simp [h2]
  have e3 : (op == 3) = false := by simp [h3]
  have e4 : (op == 4) = false := by simp [h4]
  have e5 : (op == 5) = false := by simp [h5]
  have e6 : (op == 6) = false := by simp [h6]
  have e7 : (op == 7) = false := by simp [h7]
  have e8 : (op == 8) = false := by simp [h8]
  have e9 : (op == 9) = false := by simp [h9]
  have e10 : (op == 10) = false := by simp [h10]
  have e11 : (op == 11) = false := by simp [h11]
  have e12 : (op == 12) = false := by simp [h12]
  have e13 : (op == 13) = false := by simp [h13]
  have e14 : (op == 14) = false := by simp [h14]
  have e15 : (op == 15) = false := by simp [h15]
  have e16 : (op == 16) = false := by simp [h16]
  have e17 : (op == 17) = false := by simp [h17]
  have e18 : (op == 18) = false := by simp [h18]
  have e19 : (op == 19) = false := by simp [h19]
  clear h1 h2 h3 h4 h5 h6 h7 h8 h9 h10 h11 h12 h13 h14 h15 h16 h17 h18 h19
  go_enter Try.func110, Try.ntmps110
  go_wp2_with (refine wpList_st rfl 172 (.tmp 2) (.tmp 62) rfl w.heap.size rfl rfl (Blk.new _ _ _) (by kernel_rfl) rfl rfl ?_)
  refine bodyPost_ret (results_cell_tmp rfl _ _ w.heap.size _ _ _ rfl (Blk.new _ _ _).setRow Try.underlying172 rfl (by kernel_rfl)) rfl ?_
  exact ⟨0, 0, 0, false, by rw [HH.out.1, HH.out.2.1, HH.out.2.2]; rfl, bel_setRow ((Below.refl _ _).alloc (Nat.le_refl _) _) (Nat.le_refl _) _⟩

end Go.Proofs.Ytljdnadejmkaeaa
