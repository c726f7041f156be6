/- nanbox.Box and the reference's Box: one box. -/
import Derived.Test.YtpkccpegdpodoaaNan1
namespace Go.Proofs.Ytpkccpegdpodoaa
open Go.RowKit

def lowk (k : Int) : Int := if k = 2 then -2147483648 else 0
def highk (k : Int) : Int := if k = 0 then 0 else if k = 1 then 1 else if k = 2 then 2147483647 else 4294967295
/-- the box of a value, and the error's number -/
def boxL (k n : Int) : Int × Int :=
  if k < 0 ∨ 6 < k then (0, 7)
  else if k = 3 then (if spo (n % 18446744073709551616) then (9221120237041090561, 0) else (n % 18446744073709551616, 0))
  else if n < lowk k ∨ highk k < n then (0, 1) else (tagL k * 281474976710656 + n % 4294967296, 0)

theorem bounds_any (k : Int) (w : World) (hk : 0 ≤ k ∧ k ≤ 6) : Calls Try.prog 95 #[.int .i64 k] w fun e w' => e = .returned (.tuple #[.int .i64 (lowk k), .int .i64 (highk k)]) ∧ w' = w := by
  rcases (by omega : k = 0 ∨ k = 1 ∨ k = 2 ∨ (k ≠ 0 ∧ k ≠ 1 ∧ k ≠ 2)) with rfl | rfl | rfl | ⟨h0, h1, h2⟩
  · go_enter Try.func95, Try.ntmps95
    go_wp2
    go_ret2
    exact ⟨rfl, rfl⟩
  · go_enter Try.func95, Try.ntmps95
    go_wp2
    go_ret2
    exact ⟨rfl, rfl⟩
  · go_enter Try.func95, Try.ntmps95
    go_wp2
    go_ret2
    exact ⟨rfl, rfl⟩
  · have hl : lowk k = 0 := by simp [lowk, h2]
    have hh : highk k = 4294967295 := by simp [highk, h0, h1, h2]
    rw [hl, hh]
    clear hl hh
    go_enter Try.func95, Try.ntmps95
    go_wp2
    go_ret2
    exact ⟨rfl, rfl⟩

def BoxPost (k n : Int) (w : World) (e : Ending) (w' : World) : Prop := e = .returned (.tuple #[.int .u64 (boxL k n).1, .int .i64 (boxL k n).2]) ∧ Below w.heap.size w w'
theorem box_is {k n x y : Int} {w w' : World} (h : boxL k n = (x, y)) (hb : Below w.heap.size w w') : BoxPost k n w (.returned (.tuple #[.int .u64 x, .int .i64 y])) w' := ⟨by rw [h], hb⟩

set_option maxRecDepth 100000 in
theorem box_any (k n : Int) (w : World) (hk : I64 k) (hn : I64 n) : Calls Try.prog 14 #[.agg #[.int .i64 k, .int .i64 n]] w (BoxPost k n w) := by
  have hbl : Below w.heap.size w (w.alloc (.cells #[.int .i64 k, .int .i64 n] 23)) := (Below.refl _ _).alloc (Nat.le_refl _) _
  by_cases h0 : k < 0
  · have hbx := box_is (w := w) (by unfold boxL; rw [if_pos (.inl h0)] : boxL k n = (0, 7)) hbl
    have HB := Lib.hid hbx; clear hbx hbl
    go_enter Try.func14, Try.ntmps14
    go_wp2
    go_ret2
    exact HB.out
  by_cases h6 : 6 < k
  · have hbx := box_is (w := w) (by unfold boxL; rw [if_pos (.inr h6)] : boxL k n = (0, 7)) hbl
    have HB := Lib.hid hbx; clear hbx hbl
    go_enter Try.func14, Try.ntmps14
    go_wp2
    go_ret2
    exact HB.out
  have hk6 : ¬ (k < 0 ∨ 6 < k) := by omega
  by_cases h3 : k = 3
  · subst h3
    have hu : IntKind.u64.wrap n = n % 18446744073709551616 := IntKind.wrap_u64 n
    have hm : 0 ≤ n % 18446744073709551616 ∧ n % 18446744073709551616 ≤ 18446744073709551615 := by omega
    by_cases hs : spo (n % 18446744073709551616) = true
    · have hbx := box_is (w := w) (by unfold boxL; rw [if_neg hk6, if_pos rfl, if_pos hs] : boxL 3 n = (9221120237041090561, 0)) hbl
      have HB := Lib.hid hbx; clear hbx hbl
      have HS := Lib.hid hs; clear hs
      go_enter Try.func14, Try.ntmps14
      go_wp2_with fail
      refine (spoilt_any _ _ hm).mono ?_
      rintro e w' ⟨rfl, rfl⟩
      rw [HS.out]
      go_wp2_with fail
      go_ret2
      exact HB.out
    · have hbx := box_is (w := w) (by unfold boxL; rw [if_neg hk6, if_pos rfl, if_neg hs] : boxL 3 n = (n % 18446744073709551616, 0)) hbl
      have HB := Lib.hid hbx; clear hbx hbl
      have HS := Lib.hid (by simpa using hs : spo (n % 18446744073709551616) = false); clear hs
      go_enter Try.func14, Try.ntmps14
      go_wp2_with fail
      refine (spoilt_any _ _ hm).mono ?_
      rintro e w' ⟨rfl, rfl⟩
      rw [HS.out]
      go_wp2_with fail
      go_ret2
      exact HB.out
  have hk06 : 0 ≤ k ∧ k ≤ 6 := by omega
  by_cases hlo : n < lowk k
  · have hbx := box_is (w := w) (by unfold boxL; rw [if_neg hk6, if_neg h3, if_pos (.inl hlo)] : boxL k n = (0, 1)) hbl
    have HB := Lib.hid hbx; clear hbx hbl
    have H6 := Lib.hid hk6; clear hk6
    go_enter Try.func14, Try.ntmps14
    go_wp2_with fail
    refine (bounds_any k _ hk06).mono ?_
    rintro e w' ⟨rfl, rfl⟩
    go_wp2_with fail
    go_ret2
    exact HB.out
  by_cases hhi : highk k < n
  · have hbx := box_is (w := w) (by unfold boxL; rw [if_neg hk6, if_neg h3, if_pos (.inr hhi)] : boxL k n = (0, 1)) hbl
    have HB := Lib.hid hbx; clear hbx hbl
    have H6 := Lib.hid hk6; clear hk6
    go_enter Try.func14, Try.ntmps14
    go_wp2_with fail
    refine (bounds_any k _ hk06).mono ?_
    rintro e w' ⟨rfl, rfl⟩
    go_wp2_with fail
    go_ret2
    exact HB.out
  have hbx : boxL k n = (tagL k * 281474976710656 + n % 4294967296, 0) := by unfold boxL; rw [if_neg hk6, if_neg h3, if_neg (by omega)]
  have HBX := Lib.hid hbx; clear hbx
  have H6 := Lib.hid hk6; clear hk6
  have ht : 65529 ≤ tagL k ∧ tagL k ≤ 65534 := by unfold tagL; split <;> omega
  have hor := join48 (tagL k) (n % 4294967296) (by omega) (by omega) (by omega) (by omega)
  have hcv : IntKind.u32.wrap n = n % 4294967296 := IntKind.wrap_u32 n
  have HBL := Lib.hid hbl; clear hbl
  go_enter Try.func14, Try.ntmps14
  go_wp2_with fail
  refine (bounds_any k _ hk06).mono ?_
  rintro e w' ⟨rfl, rfl⟩
  go_wp2_with fail
  go_quiet ((go_at_call 96; refine Calls.quiet_of_same (tag_any k _ hk06)))
  go_wp2_with fail
  go_ret2
  exact box_is HBX.out (below_drewN HBL.out _)


set_option maxHeartbeats 1600000 in
set_option maxRecDepth 100000 in
theorem rbox_any (k n : Int) (w : World) (hk : I64 k) (hn : I64 n) : Calls Try.prog 15 #[.agg #[.int .i64 k, .int .i64 n]] w (BoxPost k n w) := by
  have hbl : Below w.heap.size w (w.alloc (.cells #[.int .i64 k, .int .i64 n] 23)) := (Below.refl _ _).alloc (Nat.le_refl _) _
  by_cases h0 : k < 0
  · have hbx := box_is (w := w) (by unfold boxL; rw [if_pos (.inl h0)] : boxL k n = (0, 7)) hbl
    have HB := Lib.hid hbx; clear hbx hbl
    go_enter Try.func15, Try.ntmps15
    go_wp2
    go_ret2
    exact HB.out
  by_cases h6 : 6 < k
  · have hbx := box_is (w := w) (by unfold boxL; rw [if_pos (.inr h6)] : boxL k n = (0, 7)) hbl
    have HB := Lib.hid hbx; clear hbx hbl
    go_enter Try.func15, Try.ntmps15
    go_wp2
    go_ret2
    exact HB.out
  have hk6 : ¬ (k < 0 ∨ 6 < k) := by omega
  by_cases h3 : k = 3
  · subst h3
    have hu : IntKind.u64.wrap n = n % 18446744073709551616 := IntKind.wrap_u64 n
    have hm : 0 ≤ n % 18446744073709551616 ∧ n % 18446744073709551616 ≤ 18446744073709551615 := by omega
    by_cases hs : spo (n % 18446744073709551616) = true
    · have hbx := box_is (w := w) (by unfold boxL; rw [if_neg hk6, if_pos rfl, if_pos hs] : boxL 3 n = (9221120237041090561, 0)) hbl
      have HB := Lib.hid hbx; clear hbx hbl
      have HS := Lib.hid hs; clear hs
      go_enter Try.func15, Try.ntmps15
      go_wp2_with fail
      refine (odd_any _ _ hm).mono ?_
      rintro e w' ⟨rfl, rfl⟩
      rw [HS.out]
      go_wp2_with fail
      go_ret2
      exact HB.out
    · have hbx := box_is (w := w) (by unfold boxL; rw [if_neg hk6, if_pos rfl, if_neg hs] : boxL 3 n = (n % 18446744073709551616, 0)) hbl
      have HB := Lib.hid hbx; clear hbx hbl
      have HS := Lib.hid (by simpa using hs : spo (n % 18446744073709551616) = false); clear hs
      go_enter Try.func15, Try.ntmps15
      go_wp2_with fail
      refine (odd_any _ _ hm).mono ?_
      rintro e w' ⟨rfl, rfl⟩
      rw [HS.out]
      go_wp2_with fail
      go_ret2
      exact HB.out
  have hk06 : 0 ≤ k ∧ k ≤ 6 := by omega
  have hcase : (k = 0 ∧ lowk k = 0 ∧ highk k = 0) ∨ (k = 1 ∧ lowk k = 0 ∧ highk k = 1) ∨ (k = 2 ∧ lowk k = -2147483648 ∧ highk k = 2147483647) ∨ (k ≠ 0 ∧ k ≠ 1 ∧ k ≠ 2 ∧ lowk k = 0 ∧ highk k = 4294967295) := by
    rcases (by omega : k = 0 ∨ k = 1 ∨ k = 2 ∨ (k ≠ 0 ∧ k ≠ 1 ∧ k ≠ 2)) with rfl | rfl | rfl | ⟨h0, h1, h2⟩
    · exact .inl ⟨rfl, rfl, rfl⟩
    · exact .inr (.inl ⟨rfl, rfl, rfl⟩)
    · exact .inr (.inr (.inl ⟨rfl, rfl, rfl⟩))
    · exact .inr (.inr (.inr ⟨h0, h1, h2, by simp [lowk, h2], by simp [highk, h0, h1, h2]⟩))
  by_cases hlh : n < lowk k ∨ highk k < n
  · have hbx := box_is (w := w) (by unfold boxL; rw [if_neg hk6, if_neg h3, if_pos hlh] : boxL k n = (0, 1)) hbl
    have HB := Lib.hid hbx; clear hbx hbl
    have H6 := Lib.hid hk6; clear hk6
    rcases hlh with hl | hl <;> rcases hcase with ⟨rfl, e1, e2⟩ | ⟨rfl, e1, e2⟩ | ⟨rfl, e1, e2⟩ | ⟨k0, k1, k2, e1, e2⟩ <;> (first | rw [e1] at hl | rw [e2] at hl) <;>
    · clear e1 e2
      go_enter Try.func15, Try.ntmps15
      go_wp2_with fail
      go_ret2
      exact HB.out
  have hbx : boxL k n = (tagL k * 281474976710656 + n % 4294967296, 0) := by unfold boxL; rw [if_neg hk6, if_neg h3, if_neg hlh]
  have HBX := Lib.hid hbx; clear hbx
  have H6 := Lib.hid hk6; clear hk6
  have ht : 65529 ≤ tagL k ∧ tagL k ≤ 65534 := by unfold tagL; split <;> omega
  have hr : 0 ≤ n % 4294967296 ∧ n % 4294967296 < 4294967296 := by omega
  have HBL := Lib.hid hbl; clear hbl
  have hl1 : lowk k ≤ n := by omega
  have hl2 : n ≤ highk k := by omega
  clear hlh
  rcases hcase with ⟨rfl, e1, e2⟩ | ⟨rfl, e1, e2⟩ | ⟨rfl, e1, e2⟩ | ⟨k0, k1, k2, e1, e2⟩ <;> rw [e1] at hl1 <;> rw [e2] at hl2 <;>
  · clear e1 e2
    go_enter Try.func15, Try.ntmps15
    go_wp2_with fail
    go_quiet ((first | (go_at_call 98; refine Calls.quiet_of_same (rtag_any _ _ hk06 h3)) | (go_at_call 61; refine Calls.quiet_of_same (rest_any n 4294967296 _ hn (by decide)))))
    go_wp2_with fail
    go_ret2
    exact box_is HBX.out (below_drewN HBL.out _)

end Go.Proofs.Ytpkccpegdpodoaa
