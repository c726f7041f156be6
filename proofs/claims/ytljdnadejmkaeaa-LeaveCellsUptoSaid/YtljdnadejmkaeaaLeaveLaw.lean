/- The closed fact leftBy: it answers true. -/
import Derived.Test.YtljdnadejmkaeaaLeaveFrame
namespace Go.Proofs.Ytljdnadejmkaeaa
open Go.RowKit

theorem I64_lit {n : Int} (h : -1000000 ≤ n ∧ n ≤ 1000000) : I64 n := by unfold I64; omega

set_option maxHeartbeats 800000 in
set_option maxRecDepth 100000 in
theorem leftBy_any (w : World) : Calls Try.prog 12 #[] w fun e w' => e = .returned (.bool true) ∧ Below w.heap.size w w' := by
  go_enter Try.func12, Try.ntmps12
  go_wp2_with fail
  have a1 := ((At.built w #[.int .i64 0, .int .i64 0, .int .i64 0, .int .i64 0] 23 [((0 : Int), (0 : Int)), (0, 0)] rfl (by simp [Flat.ok, I64])).alloc (by simp) (.cells #[.int .i64 1, .int .i64 0] 38)).alloc (by simp) (.cells #[.int .i64 2, .int .i64 9] 23)
  have a2 := (At.built (w.alloc (.cells #[.int .i64 0, .int .i64 0, .int .i64 0, .int .i64 0] 23)) #[.int .i64 1, .int .i64 0] 38 [((1 : Int), (0 : Int))] rfl (by simp [Flat.ok, I64])).alloc (by simp) (.cells #[.int .i64 2, .int .i64 9] 23)
  have a3 := (At.built ((w.alloc (.cells #[.int .i64 0, .int .i64 0, .int .i64 0, .int .i64 0] 23)).alloc (.cells #[.int .i64 1, .int .i64 0] 38)) #[.int .i64 2, .int .i64 9] 23 [((2 : Int), (9 : Int))] rfl (by simp [Flat.ok, I64]))
  simp only [World.size_alloc] at a1 a2 a3
  refine (leaveFrame_any 0 0 0 0 0 0 5 0 (some ⟨w.heap.size, 0, none⟩) none (some ⟨w.heap.size + 1, 0, none⟩) none (some ⟨w.heap.size + 1 + 1, 0, none⟩) 2 0 1 0 0 1 (w.heap.size + 3) [(0, 0), (0, 0)] [] [(1, 0)] [(2, 9)] _
    (a1.more (by omega)) At.nil_ (a2.more (by omega)) a3 (by simp) (by simp) (by simp) (by simp) (by simp) (by simp [Flat.ok, I64])).mono ?_
  rintro e w1 ⟨hb1, ⟨-, A1, A2, c1, c2, rfl, ho1, ho2⟩ | ⟨hbad, -⟩⟩
  · obtain ⟨g, rfl, hg, hg'⟩ := ho1.some_ (by decide)
    have hc := ho1.cells_ rfl
    have v2 := hc 2 (.int .i64 2) rfl
    have v3 := hc 3 (.int .i64 9) rfl
    simp only [Nat.zero_add] at v2 v3
    have hbl : Below w.heap.size w w1 := ((((Below.refl _ _).alloc (Nat.le_refl _) _).alloc (by simp) _).alloc (by simp; omega) _).trans (hb1.mono (by simp; omega))
    clear ho1 ho2 hc hb1
    go_wp2
    go_ret
    exact ⟨rfl, hbl.alloc hbl.size _⟩
  · exact absurd hbad (by decide)

end Go.Proofs.Ytljdnadejmkaeaa
