/- KT: FloT. -/
import Derived.WalkKit
/- A float and itself: equal, but for what is no number. No program is named here. -/
namespace Go.Proofs.YtdlcooplllimeaaGreatDoor

theorem order_num {n : Nat} (h : n % 9223372036854775808 ≤ 9218868437227405312) : (FloatKind.f64.format.order n n == some .eq) = true := by
  have hs : FloatKind.f64.format.signWeight = 9223372036854775808 := by decide
  have hi : FloatKind.f64.format.infRung = 9218868437227405312 := by decide
  unfold Ieee.Format.order Ieee.Format.read
  rw [hs, hi]
  simp only
  split
  · simp [Ieee.Datum.order]
  · split
    · simp [Ieee.Datum.order]
    · split
      · simp [Ieee.Datum.order]
      · omega
theorem order_nan {n : Nat} (h : 9218868437227405312 < n % 9223372036854775808) : (FloatKind.f64.format.order n n == some .eq) = false := by
  have hs : FloatKind.f64.format.signWeight = 9223372036854775808 := by decide
  have hi : FloatKind.f64.format.infRung = 9218868437227405312 := by decide
  have hb : FloatKind.f64.format.binade = 4503599627370496 := by decide
  unfold Ieee.Format.order Ieee.Format.read
  rw [hs, hi, hb]
  simp only
  rw [if_neg (by omega), if_neg (by omega), if_neg (by omega)]
  rfl
end Go.Proofs.YtdlcooplllimeaaGreatDoor
