/- RF: Ord2. -/
import Derived.Test.YtljdnadejmkaeaaRF5
import Derived.Lib.OthersKept
/- order's forms: of, ofHeap. (Printed in part.) -/
namespace Go.Proofs.Ytljdnadejmkaeaa
open Go.RowKit

namespace Ord
/-- letters from A on -/
def lets (l : List Nat) : ByteArray := ⟨(l.map fun i => UInt8.ofNat (65 + i)).toArray⟩
theorem lets_size (l : List Nat) : (lets l).size = l.length := by simp [lets, ByteArray.size]
theorem lets_get {l : List Nat} {k i : Nat} (h : l[k]? = some i) (hi : i < 3) (hk : k < (lets l).size) : ((lets l)[k]'hk).toNat = 65 + i := by
  have hkl : k < l.length := (List.getElem?_eq_some_iff.1 h).1
  have he : l[k] = i := (List.getElem?_eq_some_iff.1 h).2
  have : (lets l)[k]'hk = UInt8.ofNat (65 + i) := by
    show ((l.map fun i => UInt8.ofNat (65 + i)).toArray)[k]'_ = _
    simp [he]
  rw [this, UInt8.toNat_ofNat']
  omega
def formV (f : Form) : Value := .agg #[.string (lets f.rd), .bool f.wr, .int .i64 f.low, .int .i64 f.high, .bool f.number, .bool f.k, .int .i64 f.exit]
end Ord
theorem ret_form {a b : Ord.Form} {p q : Bool} (h : a = b) (h' : p = q) : Ending.returned (.tuple #[Ord.formV a, .bool p]) = .returned (.tuple #[Ord.formV b, .bool q]) := by rw [h, h']
def FormPost (f : Option Ord.Form) (w : World) (e : Ending) (w' : World) : Prop := e = .returned (.tuple #[Ord.formV (f.getD Ord.form0), .bool f.isSome]) ∧ Below w.heap.size w w'

set_option maxHeartbeats 1600000 in
set_option maxRecDepth 100000 in
theorem ofHeap_any (op : Int) (w : World) : Calls Try.prog 147 #[.int .i64 op] w (FormPost (Ord.formHeap op) w) := by
  by_cases h13 : op = 13
  · subst h13
    obtain ⟨P, hP⟩ : ∃ P, FormPost (Ord.formHeap 13) w = P := ⟨_, rfl⟩
    have HP := Lib.hid hP; rw [hP]; clear hP
    go_enter Try.func147, Try.ntmps147
    go_wp2_with (refine wpList_st rfl 197 (.tmp 2) (.tmp 7) rfl w.heap.size rfl rfl (Blk.new w _ _) (by kernel_rfl) rfl rfl ?_)
    refine bodyPost_ret (results_cell_tmp rfl _ _ w.heap.size _ _ _ rfl (Blk.new w _ _).setRow Try.underlying197 rfl (by kernel_rfl)) rfl ?_
    rw [← HP.out]
    exact ⟨rfl, bel_setRow ((Below.refl _ _).alloc (Nat.le_refl _) _) (Nat.le_refl _) _⟩
  by_cases h14 : op = 14
  · subst h14
    obtain ⟨P, hP⟩ : ∃ P, FormPost (Ord.formHeap 14) w = P := ⟨_, rfl⟩
    have HP := Lib.hid hP; rw [hP]; clear hP
    go_enter Try.func147, Try.ntmps147
    go_wp2_with (refine wpList_st rfl 197 (.tmp 2) (.tmp 10) rfl w.heap.size rfl rfl (Blk.new w _ _) (by kernel_rfl) rfl rfl ?_)
    refine bodyPost_ret (results_cell_tmp rfl _ _ w.heap.size _ _ _ rfl (Blk.new w _ _).setRow Try.underlying197 rfl (by kernel_rfl)) rfl ?_
    rw [← HP.out]
    exact ⟨rfl, bel_setRow ((Below.refl _ _).alloc (Nat.le_refl _) _) (Nat.le_refl _) _⟩
  by_cases h15 : op = 15
  · subst h15
    obtain ⟨P, hP⟩ : ∃ P, FormPost (Ord.formHeap 15) w = P := ⟨_, rfl⟩
    have HP := Lib.hid hP; rw [hP]; clear hP
    go_enter Try.func147, Try.ntmps147
    go_wp2_with (refine wpList_st rfl 197 (.tmp 2) (.tmp 13) rfl w.heap.size rfl rfl (Blk.new w _ _) (by kernel_rfl) rfl rfl ?_)
    refine bodyPost_ret (results_cell_tmp rfl _ _ w.heap.size _ _ _ rfl (Blk.new w _ _).setRow Try.underlying197 rfl (by kernel_rfl)) rfl ?_
    rw [← HP.out]
    exact ⟨rfl, bel_setRow ((Below.refl _ _).alloc (Nat.le_refl _) _) (Nat.le_refl _) _⟩
  by_cases h16 : op = 16
  · subst h16
    obtain ⟨P, hP⟩ : ∃ P, FormPost (Ord.formHeap 16) w = P := ⟨_, rfl⟩
    have HP := Lib.hid hP; rw [hP]; clear hP
    go_enter Try.func147, Try.ntmps147
    go_wp2_with (refine wpList_st rfl 197 (.tmp 2) (.tmp 16) rfl w.heap.size rfl rfl (Blk.new w _ _) (by kernel_rfl) rfl rfl ?_)
    refine bodyPost_ret (results_cell_tmp rfl _ _ w.heap.size _ _ _ rfl (Blk.new w _ _).setRow Try.underlying197 rfl (by kernel_rfl)) rfl ?_
    rw [← HP.out]
    exact ⟨rfl, bel_setRow ((Below.refl _ _).alloc (Nat.le_refl _) _) (Nat.le_refl _) _⟩
  by_cases h17 : op = 17
  · subst h17
    obtain ⟨P, hP⟩ : ∃ P, FormPost (Ord.formHeap 17) w = P := ⟨_, rfl⟩
    have HP := Lib.hid hP; rw [hP]; clear hP
    go_enter Try.func147, Try.ntmps147
    go_wp2_with (refine wpList_st rfl 197 (.tmp 2) (.tmp 19) rfl w.heap.size rfl rfl (Blk.new w _ _) (by kernel_rfl) rfl rfl ?_)
    refine bodyPost_ret (results_cell_tmp rfl _ _ w.heap.size _ _ _ rfl (Blk.new w _ _).setRow Try.underlying197 rfl (by kernel_rfl)) rfl ?_
    rw [← HP.out]
    exact ⟨rfl, bel_setRow ((Below.refl _ _).alloc (Nat.le_refl _) _) (Nat.le_refl _) _⟩
  by_cases h18 : op = 18
  · subst h18
    obtain ⟨P, hP⟩ : ∃ P, FormPost (Ord.formHeap 18) w = P := ⟨_, rfl⟩
    have HP := Lib.hid hP; rw [hP]; clear hP
    go_enter Try.func147, Try.ntmps147
    go_wp2_with (refine wpList_st rfl 197 (.tmp 2) (.tmp 22) rfl w.heap.size rfl rfl (Blk.new w _ _) (by kernel_rfl) rfl rfl ?_)
    refine bodyPost_ret (results_cell_tmp rfl _ _ w.heap.size _ _ _ rfl (Blk.new w _ _).setRow Try.underlying197 rfl (by kernel_rfl)) rfl ?_
    rw [← HP.out]
    exact ⟨rfl, bel_setRow ((Below.refl _ _).alloc (Nat.le_refl _) _) (Nat.le_refl _) _⟩
  by_cases h19 : op = 19
  · subst h19
    obtain ⟨P, hP⟩ : ∃ P, FormPost (Ord.formHeap 19) w = P := ⟨_, rfl⟩
    have HP := Lib.hid hP; rw [hP]; clear hP
    go_enter Try.func147, Try.ntmps147
    go_wp2_with (refine wpList_st rfl 197 (.tmp 2) (.tmp 25) rfl w.heap.size rfl rfl (Blk.new w _ _) (by kernel_rfl) rfl rfl ?_)
    refine bodyPost_ret (results_cell_tmp rfl _ _ w.heap.size _ _ _ rfl (Blk.new w _ _).setRow Try.underlying197 rfl (by kernel_rfl)) rfl ?_
    rw [← HP.out]
    exact ⟨rfl, bel_setRow ((Below.refl _ _).alloc (Nat.le_refl _) _) (Nat.le_refl _) _⟩
  by_cases h20 : op = 20
  · subst h20
    obtain ⟨P, hP⟩ : ∃ P, FormPost (Ord.formHeap 20) w = P := ⟨_, rfl⟩
    have HP := Lib.hid hP; rw [hP]; clear hP
    go_enter Try.func147, Try.ntmps147
    go_wp2_with (refine wpList_st rfl 197 (.tmp 2) (.tmp 28) rfl w.heap.size rfl rfl (Blk.new w _ _) (by kernel_rfl) rfl rfl ?_)
    refine bodyPost_ret (results_cell_tmp rfl _ _ w.heap.size _ _ _ rfl (Blk.new w _ _).setRow Try.underlying197 rfl (by kernel_rfl)) rfl ?_
    rw [← HP.out]
    exact ⟨rfl, bel_setRow ((Below.refl _ _).alloc (Nat.le_refl _) _) (Nat.le_refl _) _⟩
  by_cases h21 : op = 21
  · subst h21
    obtain ⟨P, hP⟩ : ∃ P, FormPost (Ord.formHeap 21) w = P := ⟨_, rfl⟩
    have HP := Lib.hid hP; rw [hP]; clear hP
    go_enter Try.func147, Try.ntmps147
    go_wp2_with (refine wpList_st rfl 197 (.tmp 2) (.tmp 31) rfl w.heap.size rfl rfl (Blk.new w _ _) (by kernel_rfl) rfl rfl ?_)
    refine bodyPost_ret (results_cell_tmp rfl _ _ w.heap.size _ _ _ rfl (Blk.new w _ _).setRow Try.underlying197 rfl (by kernel_rfl)) rfl ?_
    rw [← HP.out]
    exact ⟨rfl, bel_setRow ((Below.refl _ _).alloc (Nat.le_refl _) _) (Nat.le_refl _) _⟩
  by_cases h22 : op = 22
  · subst h22
    obtain ⟨P, hP⟩ : ∃ P, FormPost (Ord.formHeap 22) w = P := ⟨_, rfl⟩
    have HP := Lib.hid hP; rw [hP]; clear hP
    go_enter Try.func147, Try.ntmps147
    go_wp2_with (refine wpList_st rfl 197 (.tmp 2) (.tmp 34) rfl w.heap.size rfl rfl (Blk.new w _ _) (by kernel_rfl) rfl rfl ?_)
    refine bodyPost_ret (results_cell_tmp rfl _ _ w.heap.size _ _ _ rfl (Blk.new w _ _).setRow Try.underlying197 rfl (by kernel_rfl)) rfl ?_
    rw [← HP.out]
    exact ⟨rfl, bel_setRow ((Below.refl _ _).alloc (Nat.le_refl _) _) (Nat.le_refl _) _⟩
  have hn : Ord.formHeap op = none := by simp [Ord.formHeap, h13, h14, h15, h16, h17, h18, h19, h20, h21, h22]
  rw [hn]; clear hn
  have b13 : (op == 13) = false := by simpa using h13
  have b14 : (op == 14) = false := by simpa using h14
  have b15 : (op == 15) = false := by simpa using h15
  have b16 : (op == 16) = false := by simpa using h16
  have b17 : (op == 17) = false := by simpa using h17
  have b18 : (op == 18) = false := by simpa using h18
  have b19 : (op == 19) = false := by simpa using h19
  have b20 : (op == 20) = false := by simpa using h20
  have b21 : (op == 21) = false := by simpa using h21
  have b22 : (op == 22) = false := by simpa using h22
  clear h13 h14 h15 h16 h17 h18 h19 h20 h21 h22
  go_enter Try.func147, Try.ntmps147
  go_wp2_with (refine wpList_st rfl 197 (.tmp 2) (.tmp 35) rfl w.heap.size rfl rfl (Blk.new w _ _) (by kernel_rfl) rfl rfl ?_)
  refine bodyPost_ret (results_cell_tmp rfl _ _ w.heap.size _ _ _ rfl (Blk.new w _ _).setRow Try.underlying197 rfl (by kernel_rfl)) rfl ?_
  exact ⟨rfl, bel_setRow ((Below.refl _ _).alloc (Nat.le_refl _) _) (Nat.le_refl _) _⟩

set_option maxHeartbeats 1600000 in
set_option maxRecDepth 100000 in
theorem of_any (op : Int) (w : World) : Calls Try.prog 130 #[.int .i64 op] w (FormPost (Ord.form op) w) := by
  by_cases h1 : op = 1
  · subst h1
    obtain ⟨P, hP⟩ : ∃ P, FormPost (Ord.form 1) w = P := ⟨_, rfl⟩
    have HP := Lib.hid hP; rw [hP]; clear hP
    go_enter Try.func130, Try.ntmps130
    go_wp2_with (refine wpList_st rfl 197 (.tmp 2) (.tmp 7) rfl w.heap.size rfl rfl (Blk.new w _ _) (by kernel_rfl) rfl rfl ?_)
    refine bodyPost_ret (results_cell_tmp rfl _ _ w.heap.size _ _ _ rfl (Blk.new w _ _).setRow Try.underlying197 rfl (by kernel_rfl)) rfl ?_
    rw [← HP.out]
    exact ⟨rfl, bel_setRow ((Below.refl _ _).alloc (Nat.le_refl _) _) (Nat.le_refl _) _⟩
  by_cases h2 : op = 2
  · subst h2
    obtain ⟨P, hP⟩ : ∃ P, FormPost (Ord.form 2) w = P := ⟨_, rfl⟩
    have HP := Lib.hid hP; rw [hP]; clear hP
    go_enter Try.func130, Try.ntmps130
    go_wp2_with (refine wpList_st rfl 197 (.tmp 2) (.tmp 10) rfl w.heap.size rfl rfl (Blk.new w _ _) (by kernel_rfl) rfl rfl ?_)
    refine bodyPost_ret (results_cell_tmp rfl _ _ w.heap.size _ _ _ rfl (Blk.new w _ _).setRow Try.underlying197 rfl (by kernel_rfl)) rfl ?_
    rw [← HP.out]
    exact ⟨rfl, bel_setRow ((Below.refl _ _).alloc (Nat.le_refl _) _) (Nat.le_refl _) _⟩
  by_cases h3 : op = 3
  · subst h3
    obtain ⟨P, hP⟩ : ∃ P, FormPost (Ord.form 3) w = P := ⟨_, rfl⟩
    have HP := Lib.hid hP; rw [hP]; clear hP
    go_enter Try.func130, Try.ntmps130
    go_wp2_with (refine wpList_st rfl 197 (.tmp 2) (.tmp 13) rfl w.heap.size rfl rfl (Blk.new w _ _) (by kernel_rfl) rfl rfl ?_)
    refine bodyPost_ret (results_cell_tmp rfl _ _ w.heap.size _ _ _ rfl (Blk.new w _ _).setRow Try.underlying197 rfl (by kernel_rfl)) rfl ?_
    rw [← HP.out]
    exact ⟨rfl, bel_setRow ((Below.refl _ _).alloc (Nat.le_refl _) _) (Nat.le_refl _) _⟩
  by_cases h4 : op = 4
  · subst h4
    obtain ⟨P, hP⟩ : ∃ P, FormPost (Ord.form 4) w = P := ⟨_, rfl⟩
    have HP := Lib.hid hP; rw [hP]; clear hP
    go_enter Try.func130, Try.ntmps130
    go_wp2_with (refine wpList_st rfl 197 (.tmp 2) (.tmp 16) rfl w.heap.size rfl rfl (Blk.new w _ _) (by kernel_rfl) rfl rfl ?_)
    refine bodyPost_ret (results_cell_tmp rfl _ _ w.heap.size _ _ _ rfl (Blk.new w _ _).setRow Try.underlying197 rfl (by kernel_rfl)) rfl ?_
    rw [← HP.out]
    exact ⟨rfl, bel_setRow ((Below.refl _ _).alloc (Nat.le_refl _) _) (Nat.le_refl _) _⟩
  by_cases h5 : op = 5
  · subst h5
    obtain ⟨P, hP⟩ : ∃ P, FormPost (Ord.form 5) w = P := ⟨_, rfl⟩
    have HP := Lib.hid hP; rw [hP]; clear hP
    go_enter Try.func130, Try.ntmps130
    go_wp2_with (refine wpList_st rfl 197 (.tmp 2) (.tmp 19) rfl w.heap.size rfl rfl (Blk.new w _ _) (by kernel_rfl) rfl rfl ?_)
    refine bodyPost_ret (results_cell_tmp rfl _ _ w.heap.size _ _ _ rfl (Blk.new w _ _).setRow Try.underlying197 rfl (by kernel_rfl)) rfl ?_
    rw [← HP.out]
    exact ⟨rfl, bel_setRow ((Below.refl _ _).alloc (Nat.le_refl _) _) (Nat.le_refl _) _⟩
  by_cases h6 : op = 6
  · subst h6
    obtain ⟨P, hP⟩ : ∃ P, FormPost (Ord.form 6) w = P := ⟨_, rfl⟩
    have HP := Lib.hid hP; rw [hP]; clear hP
    go_enter Try.func130, Try.ntmps130
    go_wp2_with (refine wpList_st rfl 197 (.tmp 2) (.tmp 22) rfl w.heap.size rfl rfl (Blk.new w _ _) (by kernel_rfl) rfl rfl ?_)
    refine bodyPost_ret (results_cell_tmp rfl _ _ w.heap.size _ _ _ rfl (Blk.new w _ _).setRow Try.underlying197 rfl (by kernel_rfl)) rfl ?_
    rw [← HP.out]
    exact ⟨rfl, bel_setRow ((Below.refl _ _).alloc (Nat.le_refl _) _) (Nat.le_refl _) _⟩
  by_cases h7 : op = 7
  · subst h7
    obtain ⟨P, hP⟩ : ∃ P, FormPost (Ord.form 7) w = P := ⟨_, rfl⟩
    have HP := Lib.hid hP; rw [hP]; clear hP
    go_enter Try.func130, Try.ntmps130
    go_wp2_with (refine wpList_st rfl 197 (.tmp 2) (.tmp 25) rfl w.heap.size rfl rfl (Blk.new w _ _) (by kernel_rfl) rfl rfl ?_)
    refine bodyPost_ret (results_cell_tmp rfl _ _ w.heap.size _ _ _ rfl (Blk.new w _ _).setRow Try.underlying197 rfl (by kernel_rfl)) rfl ?_
    rw [← HP.out]
    exact ⟨rfl, bel_setRow ((Below.refl _ _).alloc (Nat.le_refl _) _) (Nat.le_refl _) _⟩
  by_cases h8 : op = 8
  · subst h8
    obtain ⟨P, hP⟩ : ∃ P, FormPost (Ord.form 8) w = P := ⟨_, rfl⟩
    have HP := Lib.hid hP; rw [hP]; clear hP
    go_enter Try.func130, Try.ntmps130
    go_wp2_with (refine wpList_st rfl 197 (.tmp 2) (.tmp 28) rfl w.heap.size rfl rfl (Blk.new w _ _) (by kernel_rfl) rfl rfl ?_)
    refine bodyPost_ret (results_cell_tmp rfl _ _ w.heap.size _ _ _ rfl (Blk.new w _ _).setRow Try.underlying197 rfl (by kernel_rfl)) rfl ?_
    rw [← HP.out]
    exact ⟨rfl, bel_setRow ((Below.refl _ _).alloc (Nat.le_refl _) _) (Nat.le_refl _) _⟩
  by_cases h9 : op = 9
  · subst h9
    obtain ⟨P, hP⟩ : ∃ P, FormPost (Ord.form 9) w = P := ⟨_, rfl⟩
    have HP := Lib.hid hP; rw [hP]; clear hP
    go_enter Try.func130, Try.ntmps130
    go_wp2_with (refine wpList_st rfl 197 (.tmp 2) (.tmp 31) rfl w.heap.size rfl rfl (Blk.new w _ _) (by kernel_rfl) rfl rfl ?_)
    refine bodyPost_ret (results_cell_tmp rfl _ _ w.heap.size _ _ _ rfl (Blk.new w _ _).setRow Try.underlying197 rfl (by kernel_rfl)) rfl ?_
    rw [← HP.out]
    exact ⟨rfl, bel_setRow ((Below.refl _ _).alloc (Nat.le_refl _) _) (Nat.le_refl _) _⟩
  by_cases h10 : op = 10
  · subst h10
    obtain ⟨P, hP⟩ : ∃ P, FormPost (Ord.form 10) w = P := ⟨_, rfl⟩
    have HP := Lib.hid hP; rw [hP]; clear hP
    go_enter Try.func130, Try.ntmps130
    go_wp2_with (refine wpList_st rfl 197 (.tmp 2) (.tmp 34) rfl w.heap.size rfl rfl (Blk.new w _ _) (by kernel_rfl) rfl rfl ?_)
    refine bodyPost_ret (results_cell_tmp rfl _ _ w.heap.size _ _ _ rfl (Blk.new w _ _).setRow Try.underlying197 rfl (by kernel_rfl)) rfl ?_
    rw [← HP.out]
    exact ⟨rfl, bel_setRow ((Below.refl _ _).alloc (Nat.le_refl _) _) (Nat.le_refl _) _⟩
  by_cases h11 : op = 11
  · subst h11
    obtain ⟨P, hP⟩ : ∃ P, FormPost (Ord.form 11) w = P := ⟨_, rfl⟩
    have HP := Lib.hid hP; rw [hP]; clear hP
    go_enter Try.func130, Try.ntmps130
    go_wp2_with (refine wpList_st rfl 197 (.tmp 2) (.tmp 37) rfl w.heap.size rfl rfl (Blk.new w _ _) (by kernel_rfl) rfl rfl ?_)
    refine bodyPost_ret (results_cell_tmp rfl _ _ w.heap.size _ _ _ rfl (Blk.new w _ _).setRow Try.underlying197 rfl (by kernel_rfl)) rfl ?_
    rw [← HP.out]
    exact ⟨rfl, bel_setRow ((Below.refl _ _).alloc (Nat.le_refl _) _) (Nat.le_refl _) _⟩
  by_cases h12 : op = 12
  · subst h12
    obtain ⟨P, hP⟩ : ∃ P, FormPost (Ord.form 12) w = P := ⟨_, rfl⟩
    have HP := Lib.hid hP; rw [hP]; clear hP
    go_enter Try.func130, Try.ntmps130
    go_wp2_with (refine wpList_st rfl 197 (.tmp 2) (.tmp 40) rfl w.heap.size rfl rfl (Blk.new w _ _) (by kernel_rfl) rfl rfl ?_)
    refine bodyPost_ret (results_cell_tmp rfl _ _ w.heap.size _ _ _ rfl (Blk.new w _ _).setRow Try.underlying197 rfl (by kernel_rfl)) rfl ?_
    rw [← HP.out]
    exact ⟨rfl, bel_setRow ((Below.refl _ _).alloc (Nat.le_refl _) _) (Nat.le_refl _) _⟩
  have hn : Ord.form op = Ord.formHeap op := by simp [Ord.form, h1, h2, h3, h4, h5, h6, h7, h8, h9, h10, h11, h12]
  rw [hn]; clear hn
  have b1 : (op == 1) = false := by simpa using h1
  have b2 : (op == 2) = false := by simpa using h2
  have b3 : (op == 3) = false := by simpa using h3
  have b4 : (op == 4) = false := by simpa using h4
  have b5 : (op == 5) = false := by simpa using h5
  have b6 : (op == 6) = false := by simpa using h6
  have b7 : (op == 7) = false := by simpa using h7
  have b8 : (op == 8) = false := by simpa using h8
  have b9 : (op == 9) = false := by simpa using h9
  have b10 : (op == 10) = false := by simpa using h10
  have b11 : (op == 11) = false := by simpa using h11
  have b12 : (op == 12) = false := by simpa using h12
  clear h1 h2 h3 h4 h5 h6 h7 h8 h9 h10 h11 h12
  obtain ⟨f, hf⟩ : ∃ f, Ord.formHeap op = f := ⟨_, rfl⟩
  have HC := Lib.hid (ofHeap_any op (w.alloc (.cells #[.string ⟨#[]⟩, .bool false, .int .i64 0, .int .i64 0, .bool false, .bool false, .int .i64 0] 197)))
  rw [hf] at HC ⊢; clear hf
  go_enter Try.func130, Try.ntmps130
  go_wp2_with fail
  refine HC.out.mono ?_
  rintro e w1 ⟨rfl, hb1⟩
  have hs1 := hb1.size
  have hG := Lib.hid ((Blk.new w 197 #[.string ⟨#[]⟩, .bool false, .int .i64 0, .int .i64 0, .bool false, .bool false, .int .i64 0]).fresh hb1)
  have hbl : Below w.heap.size w w1 := ((Below.refl _ _).alloc (Nat.le_refl _) _).trans (hb1.mono (by simp))
  clear hb1 HC
  go_wp2_with (refine wpList_st rfl 197 (.tmp 2) (.tmp 43) rfl w.heap.size rfl rfl hG.out (by kernel_rfl) rfl rfl ?_)
  refine bodyPost_ret (results_cell_tmp rfl _ _ w.heap.size _ _ _ rfl hG.out.setRow Try.underlying197 rfl (by kernel_rfl)) rfl ?_
  exact ⟨rfl, bel_setRow hbl (Nat.le_refl _) _⟩

end Go.Proofs.Ytljdnadejmkaeaa
