/- math/bits.Mul64 at 1 and a small number. -/
import Derived.Test.YtljdnadejmkaeaaCopyA
import Derived.Laws.Bits64
import Derived.Laws.BitsLemmas
namespace Go.Proofs.Ytljdnadejmkaeaa
open Go.RowKit

theorem mask32 (x : Int) (h₀ : 0 ≤ x) (h₁ : x ≤ 18446744073709551615) : bits .and .u64 x 4294967295 = x % 4294967296 :=
  bits_mask .u64 64 (by decide) (fun n h0 h1 => by rw [IntKind.wrap_u64]; omega) 32 (by decide) x h₀ (by omega)

set_option maxRecDepth 100000 in
theorem mul64_one (n : Nat) (hn : n ≤ 1000000) (w : World) : Calls Try.prog 140 #[.int .u64 1, .int .u64 n] w fun e w' => e = .returned (.tuple #[.int .u64 0, .int .u64 n]) ∧ w = w' := by
  go_enter Try.func140, Try.ntmps140
  go_wp2
  go_ret2
  refine ⟨?_, rfl⟩
  have e1 : bits .and .u64 1 4294967295 = 1 := by decide
  have e2 : bits .and .u64 (n : Int) 4294967295 = n := by rw [mask32 _ (by omega) (by omega)]; omega
  have e3 : bits .and .u64 0 4294967295 = 0 := by decide
  have e4 : (n : Int) / 4294967296 = 0 := by omega
  simp [e1, e2, e3, e4, IntKind.wrap_u64]
  have e5 : (n : Int) % 18446744073709551616 / 4294967296 % 18446744073709551616 = 0 := by omega
  rw [e5, e3]; decide

set_option maxRecDepth 100000 in
theorem mul_one' (n : Nat) (hn : n ≤ 1000000) (w : World) : Calls Try.prog 109 #[.int .u64 1, .int .u64 n] w fun e w' => e = .returned (.tuple #[.int .u64 0, .int .u64 n]) ∧ w = w' := by
  have hw2 : IntKind.u64.wrap (n : Int) = (n : Int) := by rw [IntKind.wrap_u64]; omega
  go_enter Try.func109, Try.ntmps109
  go_wp2_with fail
  refine (mul64_one n hn w).mono ?_
  rintro e w1 ⟨rfl, rfl⟩
  go_wp2
  go_ret2
  exact ⟨rfl, rfl⟩

end Go.Proofs.Ytljdnadejmkaeaa
