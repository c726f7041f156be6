/- nanbox.Kind; the closed fact 'boxed'. -/
import Derived.Test.YtpkccpegdpodoaaNan5
namespace Go.Proofs.Ytpkccpegdpodoaa
open Go.RowKit

def kindOf (x : Int) : Int := match unbL x with | some (k, _) => k | none => -1

set_option maxHeartbeats 800000 in
set_option maxRecDepth 100000 in
theorem kind_any (x : Int) (w : World) (hx : 0 ≤ x ∧ x ≤ 18446744073709551615) : Calls Try.prog 18 #[.int .u64 x] w fun e w' => e = .returned (.int .i64 (kindOf x)) ∧ Below w.heap.size w w' := by
  go_enter Try.func18, Try.ntmps18
  go_wp2_with fail
  refine (unbox_any x _ hx).mono ?_
  rintro e w' ⟨hb, hp⟩
  have hs := hb.size
  rcases hp with ⟨k, n, hu, rfl⟩ | ⟨hu, rfl⟩
  · have hk : kindOf x = k := by unfold kindOf; rw [hu]
    have HK := Lib.hid hk; clear hk hu
    go_wp2_with fail
    go_ret
    exact ⟨ret_i64 HK.out.symm, hb.alloc hs _⟩
  · have hk : kindOf x = -1 := by unfold kindOf; rw [hu]
    have HK := Lib.hid hk; clear hk hu
    go_wp2_with fail
    go_ret
    exact ⟨ret_i64 HK.out.symm, hb.alloc hs _⟩

set_option maxRecDepth 100000 in
theorem boxed_any (w : World) : Calls Try.prog 13 #[] w fun e w' => e = .returned (.bool true) ∧ Below w.heap.size w w' := by
  have hb0 : boxL 2 (-1) = (18445336703120965631, 0) := by decide
  have HB := Lib.hid hb0; clear hb0
  go_enter Try.func13, Try.ntmps13
  go_wp2_with fail
  refine (box_any 2 (-1) _ (by unfold I64; omega) (by unfold I64; omega)).mono ?_
  rintro e w' ⟨rfl, hb⟩
  rw [HB.out]
  go_wp2_with fail
  go_ret
  exact ⟨rfl, hb⟩

theorem neqValB (x y x' y' : Int) (w : World) : (binOp .eql 23 (.agg #[.int .i64 x, .int .i64 y]) (.agg #[.int .i64 x', .int .i64 y'])).run Try.prog w = .ok (.bool (decide ((x, y) = (x', y')))) w := by
  have u3 := Try.underlying3
  have a3 := Try.isAgg3
  have z3 := Try.sizeOf3
  have hS : Try.prog.underlying 23 = some (.struct (Try.prog.fieldsOf 23)) := by kernel_rfl
  have hp : Try.prog.stoodInHeld 23 = false := by kernel_rfl
  rw [run_eql_struct, show (10000 : Nat) = 9999 + 1 from rfl, run_equalIn_agg w 9999 23 _ _ hS hp]
  simp only [Program.fieldsOf, Try.underlying23]
  go_simp
  by_cases h1 : x = x' <;> by_cases h2 : y = y' <;> simp [h1, h2]

end Go.Proofs.Ytpkccpegdpodoaa
