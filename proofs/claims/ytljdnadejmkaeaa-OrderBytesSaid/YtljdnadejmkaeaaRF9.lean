/- RF: Boxy. -/
import Derived.Test.YtljdnadejmkaeaaRF1
import Derived.Test.YtljdnadejmkaeaaRF2
import Derived.Test.YtljdnadejmkaeaaRows
import Derived.BigQuiet
import Derived.Deep.QuietTactic
import Derived.Laws.BitsLemmas
import Derived.Laws.Bits64
import Derived.IntWalk
/- nanbox.Box, in a seat without the reference's box (lines of Nan1, Nan2). -/
namespace Go.Proofs.Ytljdnadejmkaeaa
open Go.RowKit

/-- are a float's bits no number's? -/
def spo (w : Int) : Bool := decide (9218868437227405312 < w % 9223372036854775808)

theorem wraps64 (n : Int) (h₀ : 0 ≤ n) (h₁ : n < 2 ^ 64) : IntKind.u64.wrap n = n := by rw [IntKind.wrap_u64]; omega
theorem mask63 (x : Int) (h₀ : 0 ≤ x) (h₁ : x ≤ 18446744073709551615) : bits .and .u64 x 9223372036854775807 = x % 9223372036854775808 :=
  bits_mask .u64 64 (by decide) wraps64 63 (by decide) x h₀ (by omega)
theorem join48 (t y : Int) (h0 : 0 ≤ t) (h1 : t ≤ 65535) (y0 : 0 ≤ y) (y1 : y < 281474976710656) : bits .or .u64 (t * 281474976710656) y = t * 281474976710656 + y :=
  bits_join .u64 64 (by decide) wraps64 48 _ y (by omega) (by omega) (by omega) y0 (by omega) (by omega)

theorem spoilt_any (x : Int) (w : World) (hx : 0 ≤ x ∧ x ≤ 18446744073709551615) : Calls Try.prog 152 #[.int .u64 x] w fun e w' => e = .returned (.bool (spo x)) ∧ w' = w := by
  go_enter Try.func152, Try.ntmps152
  go_wp2
  go_ret
  exact ⟨ret_bool (by rw [mask63 x hx.1 hx.2]; rfl), rfl⟩
/-- a kind's tag, from the first one on -/
def tagL (k : Int) : Int := 65529 + (if 3 < k then k - 1 else k)
theorem tag_any (k : Int) (w : World) (hk : 0 ≤ k ∧ k ≤ 6) : Calls Try.prog 154 #[.int .i64 k] w fun e w' => e = .returned (.int .u64 (tagL k * 281474976710656)) ∧ w' = w := by
  unfold tagL
  by_cases h : 3 < k
  · rw [if_pos h]
    go_enter Try.func154, Try.ntmps154
    go_wp2
    go_ret
    exact ⟨rfl, rfl⟩
  · rw [if_neg h]
    go_enter Try.func154, Try.ntmps154
    go_wp2
    go_ret
    exact ⟨rfl, rfl⟩
def lowk (k : Int) : Int := if k = 2 then -2147483648 else 0
def highk (k : Int) : Int := if k = 0 then 0 else if k = 1 then 1 else if k = 2 then 2147483647 else 4294967295
/-- the box of a value, and the error's number -/
def boxL (k n : Int) : Int × Int :=
  if k < 0 ∨ 6 < k then (0, 7)
  else if k = 3 then (if spo (n % 18446744073709551616) then (9221120237041090561, 0) else (n % 18446744073709551616, 0))
  else if n < lowk k ∨ highk k < n then (0, 1) else (tagL k * 281474976710656 + n % 4294967296, 0)

theorem bounds_any (k : Int) (w : World) (hk : 0 ≤ k ∧ k ≤ 6) : Calls Try.prog 153 #[.int .i64 k] w fun e w' => e = .returned (.tuple #[.int .i64 (lowk k), .int .i64 (highk k)]) ∧ w' = w := by
  rcases (by omega : k = 0 ∨ k = 1 ∨ k = 2 ∨ (k ≠ 0 ∧ k ≠ 1 ∧ k ≠ 2)) with rfl | rfl | rfl | ⟨h0, h1, h2⟩
  · go_enter Try.func153, Try.ntmps153
    go_wp2
    go_ret2
    exact ⟨rfl, rfl⟩
  · go_enter Try.func153, Try.ntmps153
    go_wp2
    go_ret2
    exact ⟨rfl, rfl⟩
  · go_enter Try.func153, Try.ntmps153
    go_wp2
    go_ret2
    exact ⟨rfl, rfl⟩
  · have hl : lowk k = 0 := by simp [lowk, h2]
    have hh : highk k = 4294967295 := by simp [highk, h0, h1, h2]
    rw [hl, hh]
    clear hl hh
    go_enter Try.func153, Try.ntmps153
    go_wp2
    go_ret2
    exact ⟨rfl, rfl⟩

def BoxPost (k n : Int) (w : World) (e : Ending) (w' : World) : Prop := e = .returned (.tuple #[.int .u64 (boxL k n).1, .int .i64 (boxL k n).2]) ∧ Below w.heap.size w w'
theorem box_is {k n x y : Int} {w w' : World} (h : boxL k n = (x, y)) (hb : Below w.heap.size w w') : BoxPost k n w (.returned (.tuple #[.int .u64 x, .int .i64 y])) w' := ⟨by rw [h], hb⟩

set_option maxRecDepth 100000 in
theorem box_any (k n : Int) (w : World) (hk : I64 k) (hn : I64 n) : Calls Try.prog 148 #[.agg #[.int .i64 k, .int .i64 n]] w (BoxPost k n w) := by
  have hbl : Below w.heap.size w (w.alloc (.cells #[.int .i64 k, .int .i64 n] 23)) := (Below.refl _ _).alloc (Nat.le_refl _) _
  by_cases h0 : k < 0
  · have hbx := box_is (w := w) (by unfold boxL; rw [if_pos (.inl h0)] : boxL k n = (0, 7)) hbl
    have HB := Lib.hid hbx; clear hbx hbl
    go_enter Try.func148, Try.ntmps148
    go_wp2
    go_ret2
    exact HB.out
  by_cases h6 : 6 < k
  · have hbx := box_is (w := w) (by unfold boxL; rw [if_pos (.inr h6)] : boxL k n = (0, 7)) hbl
    have HB := Lib.hid hbx; clear hbx hbl
    go_enter Try.func148, Try.ntmps148
    go_wp2
    go_ret2
    exact HB.out
  have hk6 : ¬ (k < 0 ∨ 6 < k) := by omega
  by_cases h3 : k = 3
  · subst h3
    have hu : IntKind.u64.wrap n = n % 18446744073709551616 := IntKind.wrap_u64 n
    have hm : 0 ≤ n % 18446744073709551616 ∧ n % 18446744073709551616 ≤ 18446744073709551615 := by omega
    by_cases hs : spo (n % 18446744073709551616) = true
    · have hbx := box_is (w := w) (by unfold boxL; rw [if_neg hk6, if_pos rfl, if_pos hs] : boxL 3 n = (9221120237041090561, 0)) hbl
      have HB := Lib.hid hbx; clear hbx hbl
      have HS := Lib.hid hs; clear hs
      go_enter Try.func148, Try.ntmps148
      go_wp2_with fail
      refine (spoilt_any _ _ hm).mono ?_
      rintro e w' ⟨rfl, rfl⟩
      rw [HS.out]
      go_wp2_with fail
      go_ret2
      exact HB.out
    · have hbx := box_is (w := w) (by unfold boxL; rw [if_neg hk6, if_pos rfl, if_neg hs] : boxL 3 n = (n % 18446744073709551616, 0)) hbl
      have HB := Lib.hid hbx; clear hbx hbl
      have HS := Lib.hid (by simpa using hs : spo (n % 18446744073709551616) = false); clear hs
      go_enter Try.func148, Try.ntmps148
      go_wp2_with fail
      refine (spoilt_any _ _ hm).mono ?_
      rintro e w' ⟨rfl, rfl⟩
      rw [HS.out]
      go_wp2_with fail
      go_ret2
      exact HB.out
  have hk06 : 0 ≤ k ∧ k ≤ 6 := by omega
  by_cases hlo : n < lowk k
  · have hbx := box_is (w := w) (by unfold boxL; rw [if_neg hk6, if_neg h3, if_pos (.inl hlo)] : boxL k n = (0, 1)) hbl
    have HB := Lib.hid hbx; clear hbx hbl
    have H6 := Lib.hid hk6; clear hk6
    go_enter Try.func148, Try.ntmps148
    go_wp2_with fail
    refine (bounds_any k _ hk06).mono ?_
    rintro e w' ⟨rfl, rfl⟩
    go_wp2_with fail
    go_ret2
    exact HB.out
  by_cases hhi : highk k < n
  · have hbx := box_is (w := w) (by unfold boxL; rw [if_neg hk6, if_neg h3, if_pos (.inr hhi)] : boxL k n = (0, 1)) hbl
    have HB := Lib.hid hbx; clear hbx hbl
    have H6 := Lib.hid hk6; clear hk6
    go_enter Try.func148, Try.ntmps148
    go_wp2_with fail
    refine (bounds_any k _ hk06).mono ?_
    rintro e w' ⟨rfl, rfl⟩
    go_wp2_with fail
    go_ret2
    exact HB.out
  have hbx : boxL k n = (tagL k * 281474976710656 + n % 4294967296, 0) := by unfold boxL; rw [if_neg hk6, if_neg h3, if_neg (by omega)]
  have HBX := Lib.hid hbx; clear hbx
  have H6 := Lib.hid hk6; clear hk6
  have ht : 65529 ≤ tagL k ∧ tagL k ≤ 65534 := by unfold tagL; split <;> omega
  have hor := join48 (tagL k) (n % 4294967296) (by omega) (by omega) (by omega) (by omega)
  have hcv : IntKind.u32.wrap n = n % 4294967296 := IntKind.wrap_u32 n
  have HBL := Lib.hid hbl; clear hbl
  go_enter Try.func148, Try.ntmps148
  go_wp2_with fail
  refine (bounds_any k _ hk06).mono ?_
  rintro e w' ⟨rfl, rfl⟩
  go_wp2_with fail
  go_quiet ((go_at_call 154; refine Calls.quiet_of_same (tag_any k _ hk06)))
  go_wp2_with fail
  go_ret2
  exact box_is HBX.out (below_drewN HBL.out _)


end Go.Proofs.Ytljdnadejmkaeaa
