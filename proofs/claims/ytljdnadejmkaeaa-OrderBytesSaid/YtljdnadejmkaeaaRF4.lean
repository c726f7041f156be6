/- RF: CopyA. -/
import Derived.Test.YtljdnadejmkaeaaRF1
import Derived.Test.YtljdnadejmkaeaaRF3
import Derived.Deep.DeepMust
/- Copies of lists (Copy, slices.Clone): a list of their own that holds the same; bounded by the reach of the form. -/
namespace Go.Proofs.Ytljdnadejmkaeaa
open Go.RowKit

theorem pair_one : ∀ x : Int × Int, ∀ u ∈ Flat.cells x, u.oneCell' = true := by
  intro x u hu; simp [Flat.cells] at hu; rcases hu with rfl | rfl <;> rfl
theorem int_one : ∀ x : Int, ∀ u ∈ Flat.cells x, u.oneCell' = true := by
  intro x u hu; simp [Flat.cells] at hu; subst hu; rfl

theorem infoInt : (Try.prog.info? 3).map (fun i => (i.zero, i.size, i.bytes)) = some (some (.int .i64 0), 1, 8) := by kernel_rfl
theorem infoVal : (Try.prog.info? 23).map (fun i => (i.zero, i.size, i.bytes)) = some (some (.agg #[.int .i64 0, .int .i64 0]), 2, 16) := by kernel_rfl
theorem infoTry : (Try.prog.info? 44).map (fun i => (i.zero, i.size, i.bytes)) = some (some (.agg #[.int .i64 0, .int .i64 0]), 2, 16) := by kernel_rfl
theorem infoRMove : (Try.prog.info? 62).map (fun i => (i.zero, i.size, i.bytes)) = some (some (.agg #[.int .i64 0, .int .i64 0]), 2, 16) := by kernel_rfl
theorem infoRSpan : (Try.prog.info? 78).map (fun i => (i.zero, i.size, i.bytes)) = some (some (.agg #[.int .i64 0, .int .i64 0]), 2, 16) := by kernel_rfl
theorem infoRPlace : (Try.prog.info? 90).map (fun i => (i.zero, i.size, i.bytes)) = some (some (.agg #[.int .i64 0, .int .i64 0]), 2, 16) := by kernel_rfl

theorem copyVal_any (A : Option Addr) (c B : Nat) (l : List (Int×Int)) (w : World) (h : At w B A l) (hl : l.length * 16 ≤ 140737488355328) :
    Calls Try.prog 14 #[.slice A l.length c] w (Copied 23 l w) := by
  obtain ⟨i0, hi, hz0, hz1, hz2⟩ := info_parts infoVal
  have H := Lib.hid h; clear h
  go_enter Try.func14, Try.ntmps14
  go_wp2_with (at_builtin; go_must (refine wpList_app (α := Int×Int) (n := 0) rfl (.const (.slice none 0 0)) (.tmp 3) _ rfl w.heap.size 23 i0 _ 16 Try.underlying24 hi hz0 hz1 hz2 rfl (by decide) pair_one (by rfl) rfl Own.nil_ (by rfl) H.out rfl (by omega) (by simp only [maxLen]; omega) (Nat.le_refl _) ?_); intro A1 c1 w1 hown hgr hat)
  go_ret
  exact ⟨A1, c1, by simp, by simpa using hown, (Below.refl _ _).grown hgr (Nat.le_refl _) (by simp [rowOf])⟩

theorem copyRMove_any (A : Option Addr) (c B : Nat) (l : List (Int×Int)) (w : World) (h : At w B A l) (hl : l.length * 16 ≤ 140737488355328) :
    Calls Try.prog 58 #[.slice A l.length c] w (Copied 62 l w) := by
  obtain ⟨i0, hi, hz0, hz1, hz2⟩ := info_parts infoRMove
  have H := Lib.hid h; clear h
  go_enter Try.func58, Try.ntmps58
  go_wp2_with (at_builtin; go_must (refine wpList_app (α := Int×Int) (n := 0) rfl (.const (.slice none 0 0)) (.tmp 3) _ rfl w.heap.size 62 i0 _ 16 Try.underlying56 hi hz0 hz1 hz2 rfl (by decide) pair_one (by rfl) rfl Own.nil_ (by rfl) H.out rfl (by omega) (by simp only [maxLen]; omega) (Nat.le_refl _) ?_); intro A1 c1 w1 hown hgr hat)
  go_ret
  exact ⟨A1, c1, by simp, by simpa using hown, (Below.refl _ _).grown hgr (Nat.le_refl _) (by simp [rowOf])⟩

theorem copyInt_any (A : Option Addr) (c B : Nat) (l : List (Int)) (w : World) (h : At w B A l) (hl : l.length * 8 ≤ 140737488355328) :
    Calls Try.prog 25 #[.slice A l.length c] w (Copied 3 l w) := by
  obtain ⟨i0, hi, hz0, hz1, hz2⟩ := info_parts infoInt
  have H := Lib.hid h; clear h
  go_enter Try.func25, Try.ntmps25
  go_wp2_with (at_builtin; go_must (refine wpList_app (α := Int) (n := 0) rfl (.const (.slice none 0 0)) (.tmp 3) _ rfl w.heap.size 3 i0 _ 8 Try.underlying40 hi hz0 hz1 hz2 rfl (by decide) int_one (by rfl) rfl Own.nil_ (by rfl) H.out rfl (by omega) (by simp only [maxLen]; omega) (Nat.le_refl _) ?_); intro A1 c1 w1 hown hgr hat)
  go_ret
  exact ⟨A1, c1, by simp, by simpa using hown, (Below.refl _ _).grown hgr (Nat.le_refl _) (by simp [rowOf])⟩

theorem cloneVal_any (A : Option Addr) (c B : Nat) (l : List (Int×Int)) (w : World) (h : At w B A l) (hB : B ≤ w.heap.size) (hl : l.length * 16 ≤ 140737488355328) :
    Calls Try.prog 47 #[.slice A l.length c] w (Copied 23 l w) := by
  obtain ⟨i0, hi, hz0, hz1, hz2⟩ := info_parts infoVal
  cases A with
  | none =>
    have hnil : l = [] := by
      rcases l with _ | ⟨x, l⟩
      · rfl
      · obtain ⟨b, o, cs, hA, -⟩ := h 0 x rfl
        cases hA
    subst hnil
    have heq := fun w => run_eql_nil_slice w 24 23 none 0 c 0 0 Try.underlying24
    have heq2 := fun w => Lib.run_eql_slice_nil w 24 23 none 0 c 0 0 Try.underlying24
    go_enter Try.func47, Try.ntmps47
    go_wp2
    go_ret
    exact ⟨none, 0, rfl, Own.nil_, Below.refl _ _⟩
  | some a =>
    have heq2 := fun w => Lib.run_eql_slice_nil w 24 23 (some a) l.length c 0 0 Try.underlying24
    have H := Lib.hid h; clear h
    go_enter Try.func47, Try.ntmps47
    go_wp2_with (at_builtin; go_must (refine wpList_app (α := Int×Int) (n := 0) rfl (.tmp 5) (.tmp 6) _ rfl w.heap.size 23 i0 _ 16 Try.underlying24 hi hz0 hz1 hz2 rfl (by decide) pair_one (by rfl) rfl (own_new0 w _ _ _ rfl (Nat.le_refl _)) (by rfl) ((H.out).keep (fun p hp => World.cell?_alloc_lt w _ p (by omega))) rfl (by omega) (by simp only [maxLen]; omega) (by simp) ?_); intro A1 c1 w1 hown hgr hat)
    go_ret
    exact ⟨A1, c1, by simp, by simpa using hown, ((Below.refl _ _).alloc (Nat.le_refl _) _).grown hgr (by simp) (by simp [rowOf])⟩

theorem cloneTry_any (A : Option Addr) (c B : Nat) (l : List (Int×Int)) (w : World) (h : At w B A l) (hB : B ≤ w.heap.size) (hl : l.length * 16 ≤ 140737488355328) :
    Calls Try.prog 48 #[.slice A l.length c] w (Copied 44 l w) := by
  obtain ⟨i0, hi, hz0, hz1, hz2⟩ := info_parts infoTry
  cases A with
  | none =>
    have hnil : l = [] := by
      rcases l with _ | ⟨x, l⟩
      · rfl
      · obtain ⟨b, o, cs, hA, -⟩ := h 0 x rfl
        cases hA
    subst hnil
    have heq := fun w => run_eql_nil_slice w 25 44 none 0 c 0 0 Try.underlying25
    have heq2 := fun w => Lib.run_eql_slice_nil w 25 44 none 0 c 0 0 Try.underlying25
    go_enter Try.func48, Try.ntmps48
    go_wp2
    go_ret
    exact ⟨none, 0, rfl, Own.nil_, Below.refl _ _⟩
  | some a =>
    have heq2 := fun w => Lib.run_eql_slice_nil w 25 44 (some a) l.length c 0 0 Try.underlying25
    have H := Lib.hid h; clear h
    go_enter Try.func48, Try.ntmps48
    go_wp2_with (at_builtin; go_must (refine wpList_app (α := Int×Int) (n := 0) rfl (.tmp 5) (.tmp 6) _ rfl w.heap.size 44 i0 _ 16 Try.underlying25 hi hz0 hz1 hz2 rfl (by decide) pair_one (by rfl) rfl (own_new0 w _ _ _ rfl (Nat.le_refl _)) (by rfl) ((H.out).keep (fun p hp => World.cell?_alloc_lt w _ p (by omega))) rfl (by omega) (by simp only [maxLen]; omega) (by simp) ?_); intro A1 c1 w1 hown hgr hat)
    go_ret
    exact ⟨A1, c1, by simp, by simpa using hown, ((Below.refl _ _).alloc (Nat.le_refl _) _).grown hgr (by simp) (by simp [rowOf])⟩

theorem cloneRMove_any (A : Option Addr) (c B : Nat) (l : List (Int×Int)) (w : World) (h : At w B A l) (hB : B ≤ w.heap.size) (hl : l.length * 16 ≤ 140737488355328) :
    Calls Try.prog 53 #[.slice A l.length c] w (Copied 62 l w) := by
  obtain ⟨i0, hi, hz0, hz1, hz2⟩ := info_parts infoRMove
  cases A with
  | none =>
    have hnil : l = [] := by
      rcases l with _ | ⟨x, l⟩
      · rfl
      · obtain ⟨b, o, cs, hA, -⟩ := h 0 x rfl
        cases hA
    subst hnil
    have heq := fun w => run_eql_nil_slice w 56 62 none 0 c 0 0 Try.underlying56
    have heq2 := fun w => Lib.run_eql_slice_nil w 56 62 none 0 c 0 0 Try.underlying56
    go_enter Try.func53, Try.ntmps53
    go_wp2
    go_ret
    exact ⟨none, 0, rfl, Own.nil_, Below.refl _ _⟩
  | some a =>
    have heq2 := fun w => Lib.run_eql_slice_nil w 56 62 (some a) l.length c 0 0 Try.underlying56
    have H := Lib.hid h; clear h
    go_enter Try.func53, Try.ntmps53
    go_wp2_with (at_builtin; go_must (refine wpList_app (α := Int×Int) (n := 0) rfl (.tmp 5) (.tmp 6) _ rfl w.heap.size 62 i0 _ 16 Try.underlying56 hi hz0 hz1 hz2 rfl (by decide) pair_one (by rfl) rfl (own_new0 w _ _ _ rfl (Nat.le_refl _)) (by rfl) ((H.out).keep (fun p hp => World.cell?_alloc_lt w _ p (by omega))) rfl (by omega) (by simp only [maxLen]; omega) (by simp) ?_); intro A1 c1 w1 hown hgr hat)
    go_ret
    exact ⟨A1, c1, by simp, by simpa using hown, ((Below.refl _ _).alloc (Nat.le_refl _) _).grown hgr (by simp) (by simp [rowOf])⟩

theorem cloneInt_any (A : Option Addr) (c B : Nat) (l : List (Int)) (w : World) (h : At w B A l) (hB : B ≤ w.heap.size) (hl : l.length * 8 ≤ 140737488355328) :
    Calls Try.prog 59 #[.slice A l.length c] w (Copied 3 l w) := by
  obtain ⟨i0, hi, hz0, hz1, hz2⟩ := info_parts infoInt
  cases A with
  | none =>
    have hnil : l = [] := by
      rcases l with _ | ⟨x, l⟩
      · rfl
      · obtain ⟨b, o, cs, hA, -⟩ := h 0 x rfl
        cases hA
    subst hnil
    have heq := fun w => run_eql_nil_slice w 40 3 none 0 c 0 0 Try.underlying40
    have heq2 := fun w => Lib.run_eql_slice_nil w 40 3 none 0 c 0 0 Try.underlying40
    go_enter Try.func59, Try.ntmps59
    go_wp2
    go_ret
    exact ⟨none, 0, rfl, Own.nil_, Below.refl _ _⟩
  | some a =>
    have heq2 := fun w => Lib.run_eql_slice_nil w 40 3 (some a) l.length c 0 0 Try.underlying40
    have H := Lib.hid h; clear h
    go_enter Try.func59, Try.ntmps59
    go_wp2_with (at_builtin; go_must (refine wpList_app (α := Int) (n := 0) rfl (.tmp 5) (.tmp 6) _ rfl w.heap.size 3 i0 _ 8 Try.underlying40 hi hz0 hz1 hz2 rfl (by decide) int_one (by rfl) rfl (own_new0 w _ _ _ rfl (Nat.le_refl _)) (by rfl) ((H.out).keep (fun p hp => World.cell?_alloc_lt w _ p (by omega))) rfl (by omega) (by simp only [maxLen]; omega) (by simp) ?_); intro A1 c1 w1 hown hgr hat)
    go_ret
    exact ⟨A1, c1, by simp, by simpa using hown, ((Below.refl _ _).alloc (Nat.le_refl _) _).grown hgr (by simp) (by simp [rowOf])⟩

end Go.Proofs.Ytljdnadejmkaeaa
