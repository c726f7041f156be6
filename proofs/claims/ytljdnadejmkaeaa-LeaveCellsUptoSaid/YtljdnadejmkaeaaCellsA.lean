/- Copies of lists of structs that hold slices: raw rows. -/
import Derived.Test.YtljdnadejmkaeaaCopyA
import Derived.Test.YtljdnadejmkaeaaRaws
import Derived.Test.YtljdnadejmkaeaaTypes
namespace Go.Proofs.Ytljdnadejmkaeaa
open Go.RowKit

theorem infoCell : (Try.prog.info? 52).map (fun i => (i.zero, i.size, i.bytes)) = some (some (.agg #[.int .i64 0, .int .i64 0, .slice none 0 0, .slice none 0 0]), 4, 64) := by kernel_rfl
theorem infoFrame : (Try.prog.info? 27).map (fun i => (i.zero, i.size, i.bytes)) = some (some (.agg #[.int .i64 0, .int .i64 0, .int .i64 0, .int .i64 0, .int .i64 0, .int .i64 0, .slice none 0 0, .slice none 0 0]), 8, 96) := by kernel_rfl

theorem copyCell_any (A : Option Addr) (c B : Nat) (l : List (Raw 4)) (w : World) (h : At w B A l) (hl : l.length * 64 ≤ 140737488355328) :
    Calls Try.prog 19 #[.slice A l.length c] w (Copied 52 l w) := by
  obtain ⟨i0, hi, hz0, hz1, hz2⟩ := info_parts infoCell
  have H := Lib.hid h; clear h
  go_enter Try.func19, Try.ntmps19
  go_wp2_with (at_builtin; go_must (refine wpList_app (α := Raw 4) (n := 0) rfl (.const (.slice none 0 0)) (.tmp 3) _ rfl w.heap.size 52 i0 _ 64 Try.underlying46 hi hz0 hz1 hz2 rfl (by decide) raw_one (by rfl) rfl Own.nil_ (by rfl) H.out rfl (by omega) (by simp only [maxLen]; omega) (Nat.le_refl _) ?_); intro A1 c1 w1 hown hgr hat)
  go_ret
  exact ⟨A1, c1, by simp, by simpa using hown, (Below.refl _ _).grown hgr (Nat.le_refl _) (by simp [rowOf])⟩

theorem cloneCell_any (A : Option Addr) (c B : Nat) (l : List (Raw 4)) (w : World) (h : At w B A l) (hB : B ≤ w.heap.size) (hl : l.length * 64 ≤ 140737488355328) :
    Calls Try.prog 100 #[.slice A l.length c] w (Copied 52 l w) := by
  obtain ⟨i0, hi, hz0, hz1, hz2⟩ := info_parts infoCell
  cases A with
  | none =>
    have hnil : l = [] := by
      rcases l with _ | ⟨x, l⟩
      · rfl
      · obtain ⟨b, o, cs, hA, -⟩ := h 0 x rfl
        cases hA
    subst hnil
    have heq := fun w => run_eql_nil_slice w 46 52 none 0 c 0 0 Try.underlying46
    have heq2 := fun w => Lib.run_eql_slice_nil w 46 52 none 0 c 0 0 Try.underlying46
    go_enter Try.func100, Try.ntmps100
    go_wp2
    go_ret
    exact ⟨none, 0, rfl, Own.nil_, Below.refl _ _⟩
  | some a =>
    have heq2 := fun w => Lib.run_eql_slice_nil w 46 52 (some a) l.length c 0 0 Try.underlying46
    have H := Lib.hid h; clear h
    go_enter Try.func100, Try.ntmps100
    go_wp2_with (at_builtin; go_must (refine wpList_app (α := Raw 4) (n := 0) rfl (.tmp 5) (.tmp 6) _ rfl w.heap.size 52 i0 _ 64 Try.underlying46 hi hz0 hz1 hz2 rfl (by decide) raw_one (by rfl) rfl (own_new0 w _ _ _ rfl (Nat.le_refl _)) (by rfl) ((H.out).keep (fun p hp => World.cell?_alloc_lt w _ p (by omega))) rfl (by omega) (by simp only [maxLen]; omega) (by simp) ?_); intro A1 c1 w1 hown hgr hat)
    go_ret
    exact ⟨A1, c1, by simp, by simpa using hown, ((Below.refl _ _).alloc (Nat.le_refl _) _).grown hgr (by simp) (by simp [rowOf])⟩

theorem cloneFrame_any (A : Option Addr) (c B : Nat) (l : List (Raw 8)) (w : World) (h : At w B A l) (hB : B ≤ w.heap.size) (hl : l.length * 96 ≤ 140737488355328) :
    Calls Try.prog 138 #[.slice A l.length c] w (Copied 27 l w) := by
  obtain ⟨i0, hi, hz0, hz1, hz2⟩ := info_parts infoFrame
  cases A with
  | none =>
    have hnil : l = [] := by
      rcases l with _ | ⟨x, l⟩
      · rfl
      · obtain ⟨b, o, cs, hA, -⟩ := h 0 x rfl
        cases hA
    subst hnil
    have heq := fun w => run_eql_nil_slice w 50 27 none 0 c 0 0 Try.underlying50
    have heq2 := fun w => Lib.run_eql_slice_nil w 50 27 none 0 c 0 0 Try.underlying50
    go_enter Try.func138, Try.ntmps138
    go_wp2
    go_ret
    exact ⟨none, 0, rfl, Own.nil_, Below.refl _ _⟩
  | some a =>
    have heq2 := fun w => Lib.run_eql_slice_nil w 50 27 (some a) l.length c 0 0 Try.underlying50
    have H := Lib.hid h; clear h
    go_enter Try.func138, Try.ntmps138
    go_wp2_with (at_builtin; go_must (refine wpList_app (α := Raw 8) (n := 0) rfl (.tmp 5) (.tmp 6) _ rfl w.heap.size 27 i0 _ 96 Try.underlying50 hi hz0 hz1 hz2 rfl (by decide) raw_one (by rfl) rfl (own_new0 w _ _ _ rfl (Nat.le_refl _)) (by rfl) ((H.out).keep (fun p hp => World.cell?_alloc_lt w _ p (by omega))) rfl (by omega) (by simp only [maxLen]; omega) (by simp) ?_); intro A1 c1 w1 hown hgr hat)
    go_ret
    exact ⟨A1, c1, by simp, by simpa using hown, ((Below.refl _ _).alloc (Nat.le_refl _) _).grown hgr (by simp) (by simp [rowOf])⟩

/-- the cells of a frame, of a cell: each one cell -/
theorem fr_one {w : World} {B : Nat} : ∀ cs (x : Fr), Enc.rd w B cs x → ∀ u ∈ cs, u.oneCell' = true := by
  rintro cs x ⟨c6, c7, rfl, -, -, -, -, -, -, ⟨A6, d6, e6, -⟩, ⟨A7, d7, e7, -⟩⟩ u hu
  injection e6 with e6; injection e7 with e7; subst e6 e7
  simp at hu
  rcases hu with rfl | rfl | rfl | rfl | rfl | rfl | rfl | rfl <;> rfl
theorem ce_one {w : World} {B : Nat} : ∀ cs (x : Ce), Enc.rd w B cs x → ∀ u ∈ cs, u.oneCell' = true := by
  rintro cs x ⟨c6, c7, rfl, -, -, ⟨A6, d6, e6, -⟩, ⟨A7, d7, e7, -⟩⟩ u hu
  injection e6 with e6; injection e7 with e7; subst e6 e7
  simp at hu
  rcases hu with rfl | rfl | rfl | rfl <;> rfl

end Go.Proofs.Ytljdnadejmkaeaa
