/- nanbox: boxes of values: contracts of the small functions, here and in the reference. -/
import Derived.Test.YtpkccpegdpodoaaRows
import Derived.Test.YtpkccpegdpodoaaRowz
import Derived.BigQuiet
import Derived.Deep.QuietTactic
import Derived.Laws.BitsLemmas
import Derived.Laws.Bits64
import Derived.IntWalk
namespace Go.Proofs.Ytpkccpegdpodoaa
open Go.RowKit

/-- are a float's bits no number's? -/
def spo (w : Int) : Bool := decide (9218868437227405312 < w % 9223372036854775808)

theorem ret_bool {a b : Bool} (h : a = b) : Ending.returned (.bool a) = .returned (.bool b) := by rw [h]
theorem ret_u64 {a b : Int} (h : a = b) : Ending.returned (.int .u64 a) = .returned (.int .u64 b) := by rw [h]
theorem ret_i64 {a b : Int} (h : a = b) : Ending.returned (.int .i64 a) = .returned (.int .i64 b) := by rw [h]
theorem wraps64 (n : Int) (h₀ : 0 ≤ n) (h₁ : n < 2 ^ 64) : IntKind.u64.wrap n = n := by rw [IntKind.wrap_u64]; omega
theorem mask63 (x : Int) (h₀ : 0 ≤ x) (h₁ : x ≤ 18446744073709551615) : bits .and .u64 x 9223372036854775807 = x % 9223372036854775808 :=
  bits_mask .u64 64 (by decide) wraps64 63 (by decide) x h₀ (by omega)
theorem join48 (t y : Int) (h0 : 0 ≤ t) (h1 : t ≤ 65535) (y0 : 0 ≤ y) (y1 : y < 281474976710656) : bits .or .u64 (t * 281474976710656) y = t * 281474976710656 + y :=
  bits_join .u64 64 (by decide) wraps64 48 _ y (by omega) (by omega) (by omega) y0 (by omega) (by omega)

theorem spoilt_any (x : Int) (w : World) (hx : 0 ≤ x ∧ x ≤ 18446744073709551615) : Calls Try.prog 94 #[.int .u64 x] w fun e w' => e = .returned (.bool (spo x)) ∧ w' = w := by
  go_enter Try.func94, Try.ntmps94
  go_wp2
  go_ret
  exact ⟨ret_bool (by rw [mask63 x hx.1 hx.2]; rfl), rfl⟩
theorem odd_any (x : Int) (w : World) (hx : 0 ≤ x ∧ x ≤ 18446744073709551615) : Calls Try.prog 97 #[.int .u64 x] w fun e w' => e = .returned (.bool (spo x)) ∧ w' = w := by
  by_cases h : x / 4503599627370496 % 2048 = 2047
  · go_enter Try.func97, Try.ntmps97
    go_wp2
    go_ret
    refine ⟨ret_bool ?_, rfl⟩
    rw [IntKind.wrap_u64, Bool.eq_iff_iff]
    simp only [spo, bne_iff_ne, ne_eq, decide_eq_true_eq]
    omega
  · go_enter Try.func97, Try.ntmps97
    go_wp2
    go_ret
    refine ⟨ret_bool ?_, rfl⟩
    rw [Bool.eq_iff_iff]
    simp only [spo, decide_eq_true_eq, Bool.false_eq_true, false_iff]
    omega
/-- a kind's tag, from the first one on -/
def tagL (k : Int) : Int := 65529 + (if 3 < k then k - 1 else k)
theorem tag_any (k : Int) (w : World) (hk : 0 ≤ k ∧ k ≤ 6) : Calls Try.prog 96 #[.int .i64 k] w fun e w' => e = .returned (.int .u64 (tagL k * 281474976710656)) ∧ w' = w := by
  unfold tagL
  by_cases h : 3 < k
  · rw [if_pos h]
    go_enter Try.func96, Try.ntmps96
    go_wp2
    go_ret
    exact ⟨rfl, rfl⟩
  · rw [if_neg h]
    go_enter Try.func96, Try.ntmps96
    go_wp2
    go_ret
    exact ⟨rfl, rfl⟩
set_option maxRecDepth 100000 in
theorem rtag_any (k : Int) (w : World) (hk : 0 ≤ k ∧ k ≤ 6) (h3 : k ≠ 3) : Calls Try.prog 98 #[.int .i64 k] w fun e w' => e = .returned (.int .u64 (tagL k)) ∧ w' = w := by
  have key : ∀ w' : World, (Instr.index 207 (.agg #[.int .u64 65529, .int .u64 65530, .int .u64 65531, .int .u64 0, .int .u64 65532, .int .u64 65533, .int .u64 65534]) (.int .i64 k)).run Try.prog w' = .ok (.int .u64 (tagL k)) w' := by
    intro w'
    rcases (by omega : k = 0 ∨ k = 1 ∨ k = 2 ∨ k = 4 ∨ k = 5 ∨ k = 6) with rfl | rfl | rfl | rfl | rfl | rfl <;> kernel_rfl
  go_enter Try.func98, Try.ntmps98
  go_wp2
  go_ret
  exact ⟨rfl, rfl⟩
theorem rest_any (n m : Int) (w : World) (hn : I64 n) (hm : 0 < m ∧ m ≤ 4611686018427387904) : Calls Try.prog 61 #[.int .i64 n, .int .i64 m] w fun e w' => e = .returned (.int .i64 (n % m)) ∧ w' = w := by
  have e2 := Int.emod_nonneg n (by omega : m ≠ 0)
  have e3 := Int.emod_lt_of_pos n hm.1
  have hcase : (0 ≤ n.tmod m ∧ n.tmod m = n % m) ∨ (n.tmod m < 0 ∧ n.tmod m + m = n % m) := by
    rw [Int.tmod_eq_emod]
    split
    · left; constructor <;> omega
    · right
      have : ¬ n % m = 0 := fun h => by rename_i h2; exact h2 (.inr (Int.dvd_of_emod_eq_zero h))
      constructor <;> omega
  rcases hcase with ⟨h1, h2⟩ | ⟨h1, h2⟩
  · have H2 := Lib.hid h2; clear h2
    go_enter Try.func61, Try.ntmps61
    go_wp2
    go_ret
    exact ⟨ret_i64 H2.out, rfl⟩
  · have hw : wrap64 (n.tmod m + m) = n % m := by
      rw [h2]; simp only [wrap64]; omega
    have H2 := Lib.hid hw; clear h2 hw
    go_enter Try.func61, Try.ntmps61
    go_wp2
    go_ret
    exact ⟨ret_i64 H2.out, rfl⟩

end Go.Proofs.Ytpkccpegdpodoaa
