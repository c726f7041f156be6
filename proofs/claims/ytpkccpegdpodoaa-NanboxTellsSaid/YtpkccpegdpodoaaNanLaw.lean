/- The law NanboxTells, walked. -/
import Derived.Test.YtpkccpegdpodoaaNan6
namespace Go.Proofs.Ytpkccpegdpodoaa
open Go.RowKit

set_option maxHeartbeats 1600000 in
set_option maxRecDepth 100000 in
theorem nanboxTells_any (k n x : Int) (w : World) (hk : I64 k) (hn : I64 n) (hx : 0 ≤ x ∧ x ≤ 18446744073709551615) :
    Calls Try.prog 3 #[.agg #[.int .i64 k, .int .i64 n], .int .u64 x] w fun e w' => e = .returned (.bool true) ∧ Below w.heap.size w w' := by
  obtain ⟨y, z, hyz⟩ : ∃ y z, boxL k n = (y, z) := ⟨_, _, rfl⟩
  have HYZ := Lib.hid hyz; clear hyz
  go_enter Try.func3, Try.ntmps3
  go_wp2_with fail
  refine calls_world (fun W => Blk W w.heap.size 23 #[.int .i64 k, .int .i64 n] ∧ Below w.heap.size w W ∧ w.heap.size + 1 ≤ W.heap.size) ⟨Blk.new _ _ _, (Below.refl _ _).alloc (Nat.le_refl _) _, by simp⟩ ?_
  rintro W ⟨hV, hbl, hsz⟩
  refine (boxed_any W).mono ?_
  rintro e w1 ⟨rfl, hb1⟩
  have HV1 := Lib.hid (hV.fresh hb1)
  have hs1 := hb1.size
  have hbl1 := hbl.trans (hb1.mono (by omega))
  clear hV hbl hb1
  go_wp2_with (refine wpList_ld rfl 23 (.tmp 2) rfl w.heap.size rfl HV1.out Try.underlying23 rfl (by kernel_rfl) ?_)
  refine (box_any k n _ hk hn).mono ?_
  rintro e w2 ⟨rfl, hb2⟩
  rw [HYZ.out]
  have HV2 := Lib.hid (HV1.out.fresh hb2)
  have hs2 := hb2.size
  have hbl2 := hbl1.trans (hb2.mono (by omega))
  clear hbl1 hb2
  go_wp2_with (refine wpList_ld rfl 23 (.tmp 2) rfl w.heap.size rfl HV2.out Try.underlying23 rfl (by kernel_rfl) ?_)
  refine (rbox_any k n _ hk hn).mono ?_
  rintro e w3 ⟨rfl, hb3⟩
  rw [HYZ.out]
  have hs3 := hb3.size
  have hbl3 := hbl2.trans (hb3.mono (by omega))
  clear hbl2 hb3
  go_wp2_with fail
  refine (unbox_any x _ hx).mono ?_
  rintro e w4 ⟨hb4, hp⟩
  have hs4 := hb4.size
  have hbl4 := hbl3.trans (hb4.mono (by omega))
  clear hbl3 hb4
  rcases hp with ⟨k', n', hu, rfl⟩ | ⟨hu, rfl⟩
  · have hko : kindOf x = k' := by unfold kindOf; rw [hu]
    have HU := Lib.hid hu; clear hu
    go_wp2_with fail
    refine calls_world (fun W => Blk W w4.heap.size 23 #[.int .i64 k', .int .i64 n'] ∧ Below w.heap.size w W ∧ w4.heap.size + 1 ≤ W.heap.size) ⟨Blk.new _ _ _, hbl4.alloc (by omega) _, by simp⟩ ?_
    rintro W5 ⟨hA, hbl5, hs5⟩
    refine (runbox_any x _ hx).mono ?_
    rintro e w6 ⟨hb6, hp6⟩
    have hs6 := hb6.size
    have hbl6 := hbl5.trans (hb6.mono (by omega))
    have hA6 := hA.fresh hb6
    rcases hp6 with ⟨k2, n2, hu2, rfl⟩ | ⟨hu2, -⟩
    · rw [HU.out] at hu2; injection hu2 with hu2; injection hu2 with e1 e2; subst e1 e2
      have a0 := hA6.cell 0 (v := .int .i64 k') rfl
      have a1 := hA6.cell 1 (v := .int .i64 n') rfl
      have heq := fun w => (neqValB k' n' k' n' w).trans (by simp : _ = Result.ok (.bool true) w)
      have lt4 : w4.heap.size < w6.heap.size := by omega
      have HKO := Lib.hid hko; clear hko hA hA6
      go_wp2_with fail
      refine (kind_any x _ hx).mono ?_
      rintro e w7 ⟨rfl, hb7⟩
      rw [HKO.out]
      go_wp2_with fail
      go_ret
      exact ⟨ret_bool (by simp), (hbl6.alloc (by omega) _).trans (hb7.mono (by simp; omega))⟩
    · rw [HU.out] at hu2; cases hu2
  · have hko : kindOf x = -1 := by unfold kindOf; rw [hu]
    have HU := Lib.hid hu; clear hu
    go_wp2_with fail
    refine calls_world (fun W => Blk W w4.heap.size 23 #[.int .i64 0, .int .i64 0] ∧ Below w.heap.size w W ∧ w4.heap.size + 1 ≤ W.heap.size) ⟨Blk.new _ _ _, hbl4.alloc (by omega) _, by simp⟩ ?_
    rintro W5 ⟨hA, hbl5, hs5⟩
    refine (runbox_any x _ hx).mono ?_
    rintro e w6 ⟨hb6, hp6⟩
    have hs6 := hb6.size
    have hbl6 := hbl5.trans (hb6.mono (by omega))
    have hA6 := hA.fresh hb6
    rcases hp6 with ⟨k2, n2, hu2, -⟩ | ⟨-, rfl⟩
    · rw [HU.out] at hu2; cases hu2
    · have a0 := hA6.cell 0 (v := .int .i64 0) rfl
      have a1 := hA6.cell 1 (v := .int .i64 0) rfl
      have heq := fun w => (neqValB 0 0 0 0 w).trans (by simp : _ = Result.ok (.bool true) w)
      have lt4 : w4.heap.size < w6.heap.size := by omega
      have HKO := Lib.hid hko; clear hko hA hA6
      go_wp2_with fail
      refine (kind_any x _ hx).mono ?_
      rintro e w7 ⟨rfl, hb7⟩
      rw [HKO.out]
      go_wp2_with fail
      go_ret
      exact ⟨ret_bool (by simp), (hbl6.alloc (by omega) _).trans (hb7.mono (by simp; omega))⟩

end Go.Proofs.Ytpkccpegdpodoaa
