/- KT: Nan1, Nan2, Nan3, Nan4, Nan5, Nan6. -/
import Derived.Test.YtdlcooplllimeaaGreatDoorKT1
import Derived.Test.YtdlcooplllimeaaGreatDoorRows
import Derived.BigQuiet
import Derived.Deep.QuietTactic
import Derived.Laws.BitsLemmas
import Derived.Laws.Bits64
import Derived.IntWalk
/- nanbox: boxes of values: contracts of the small functions, here and in the reference. -/
namespace Go.Proofs.YtdlcooplllimeaaGreatDoor
open Go.RowKit

/-- are a float's bits no number's? -/
def spo (w : Int) : Bool := decide (9218868437227405312 < w % 9223372036854775808)

theorem ret_bool {a b : Bool} (h : a = b) : Ending.returned (.bool a) = .returned (.bool b) := by rw [h]
theorem ret_u64 {a b : Int} (h : a = b) : Ending.returned (.int .u64 a) = .returned (.int .u64 b) := by rw [h]
theorem ret_i64 {a b : Int} (h : a = b) : Ending.returned (.int .i64 a) = .returned (.int .i64 b) := by rw [h]
theorem wraps64 (n : Int) (h₀ : 0 ≤ n) (h₁ : n < 2 ^ 64) : IntKind.u64.wrap n = n := by rw [IntKind.wrap_u64]; omega
theorem mask63 (x : Int) (h₀ : 0 ≤ x) (h₁ : x ≤ 18446744073709551615) : bits .and .u64 x 9223372036854775807 = x % 9223372036854775808 :=
  bits_mask .u64 64 (by decide) wraps64 63 (by decide) x h₀ (by omega)
theorem join48 (t y : Int) (h0 : 0 ≤ t) (h1 : t ≤ 65535) (y0 : 0 ≤ y) (y1 : y < 281474976710656) : bits .or .u64 (t * 281474976710656) y = t * 281474976710656 + y :=
  bits_join .u64 64 (by decide) wraps64 48 _ y (by omega) (by omega) (by omega) y0 (by omega) (by omega)

theorem spoilt_any (x : Int) (w : World) (hx : 0 ≤ x ∧ x ≤ 18446744073709551615) : Calls Tryz.prog 50 #[.int .u64 x] w fun e w' => e = .returned (.bool (spo x)) ∧ w' = w := by
  go_enter Tryz.func50, Tryz.ntmps50
  go_wp2
  go_ret
  exact ⟨ret_bool (by rw [mask63 x hx.1 hx.2]; rfl), rfl⟩
/-- a kind's tag, from the first one on -/
def tagL (k : Int) : Int := 65529 + (if 3 < k then k - 1 else k)
theorem tag_any (k : Int) (w : World) (hk : 0 ≤ k ∧ k ≤ 6) : Calls Tryz.prog 52 #[.int .i64 k] w fun e w' => e = .returned (.int .u64 (tagL k * 281474976710656)) ∧ w' = w := by
  unfold tagL
  by_cases h : 3 < k
  · rw [if_pos h]
    go_enter Tryz.func52, Tryz.ntmps52
    go_wp2
    go_ret
    exact ⟨rfl, rfl⟩
  · rw [if_neg h]
    go_enter Tryz.func52, Tryz.ntmps52
    go_wp2
    go_ret
    exact ⟨rfl, rfl⟩
end Go.Proofs.YtdlcooplllimeaaGreatDoor

/- nanbox.Box and the reference's Box: one box. -/
namespace Go.Proofs.YtdlcooplllimeaaGreatDoor
open Go.RowKit

def lowk (k : Int) : Int := if k = 2 then -2147483648 else 0
def highk (k : Int) : Int := if k = 0 then 0 else if k = 1 then 1 else if k = 2 then 2147483647 else 4294967295
/-- the box of a value, and the error's number -/
def boxL (k n : Int) : Int × Int :=
  if k < 0 ∨ 6 < k then (0, 7)
  else if k = 3 then (if spo (n % 18446744073709551616) then (9221120237041090561, 0) else (n % 18446744073709551616, 0))
  else if n < lowk k ∨ highk k < n then (0, 1) else (tagL k * 281474976710656 + n % 4294967296, 0)

theorem bounds_any (k : Int) (w : World) (hk : 0 ≤ k ∧ k ≤ 6) : Calls Tryz.prog 51 #[.int .i64 k] w fun e w' => e = .returned (.tuple #[.int .i64 (lowk k), .int .i64 (highk k)]) ∧ w' = w := by
  rcases (by omega : k = 0 ∨ k = 1 ∨ k = 2 ∨ (k ≠ 0 ∧ k ≠ 1 ∧ k ≠ 2)) with rfl | rfl | rfl | ⟨h0, h1, h2⟩
  · go_enter Tryz.func51, Tryz.ntmps51
    go_wp2
    go_ret2
    exact ⟨rfl, rfl⟩
  · go_enter Tryz.func51, Tryz.ntmps51
    go_wp2
    go_ret2
    exact ⟨rfl, rfl⟩
  · go_enter Tryz.func51, Tryz.ntmps51
    go_wp2
    go_ret2
    exact ⟨rfl, rfl⟩
  · have hl : lowk k = 0 := by simp [lowk, h2]
    have hh : highk k = 4294967295 := by simp [highk, h0, h1, h2]
    rw [hl, hh]
    clear hl hh
    go_enter Tryz.func51, Tryz.ntmps51
    go_wp2
    go_ret2
    exact ⟨rfl, rfl⟩

def BoxPost (k n : Int) (w : World) (e : Ending) (w' : World) : Prop := e = .returned (.tuple #[.int .u64 (boxL k n).1, .int .i64 (boxL k n).2]) ∧ Below w.heap.size w w'
theorem box_is {k n x y : Int} {w w' : World} (h : boxL k n = (x, y)) (hb : Below w.heap.size w w') : BoxPost k n w (.returned (.tuple #[.int .u64 x, .int .i64 y])) w' := ⟨by rw [h], hb⟩

set_option maxRecDepth 100000 in
theorem box_any (k n : Int) (w : World) (hk : I64 k) (_hn : I64 n) : Calls Tryz.prog 19 #[.agg #[.int .i64 k, .int .i64 n]] w (BoxPost k n w) := by
  have hbl : Below w.heap.size w (w.alloc (.cells #[.int .i64 k, .int .i64 n] 48)) := (Below.refl _ _).alloc (Nat.le_refl _) _
  by_cases h0 : k < 0
  · have hbx := box_is (w := w) (by unfold boxL; rw [if_pos (.inl h0)] : boxL k n = (0, 7)) hbl
    have HB := Lib.hid hbx; clear hbx hbl
    go_enter Tryz.func19, Tryz.ntmps19
    go_wp2
    go_ret2
    exact HB.out
  by_cases h6 : 6 < k
  · have hbx := box_is (w := w) (by unfold boxL; rw [if_pos (.inr h6)] : boxL k n = (0, 7)) hbl
    have HB := Lib.hid hbx; clear hbx hbl
    go_enter Tryz.func19, Tryz.ntmps19
    go_wp2
    go_ret2
    exact HB.out
  have hk6 : ¬ (k < 0 ∨ 6 < k) := by omega
  by_cases h3 : k = 3
  · subst h3
    have hu : IntKind.u64.wrap n = n % 18446744073709551616 := IntKind.wrap_u64 n
    have hm : 0 ≤ n % 18446744073709551616 ∧ n % 18446744073709551616 ≤ 18446744073709551615 := by omega
    by_cases hs : spo (n % 18446744073709551616) = true
    · have hbx := box_is (w := w) (by unfold boxL; rw [if_neg hk6, if_pos rfl, if_pos hs] : boxL 3 n = (9221120237041090561, 0)) hbl
      have HB := Lib.hid hbx; clear hbx hbl
      have HS := Lib.hid hs; clear hs
      go_enter Tryz.func19, Tryz.ntmps19
      go_wp2_with fail
      refine (spoilt_any _ _ hm).mono ?_
      rintro e w' ⟨rfl, rfl⟩
      rw [HS.out]
      go_wp2_with fail
      go_ret2
      exact HB.out
    · have hbx := box_is (w := w) (by unfold boxL; rw [if_neg hk6, if_pos rfl, if_neg hs] : boxL 3 n = (n % 18446744073709551616, 0)) hbl
      have HB := Lib.hid hbx; clear hbx hbl
      have HS := Lib.hid (by simpa using hs : spo (n % 18446744073709551616) = false); clear hs
      go_enter Tryz.func19, Tryz.ntmps19
      go_wp2_with fail
      refine (spoilt_any _ _ hm).mono ?_
      rintro e w' ⟨rfl, rfl⟩
      rw [HS.out]
      go_wp2_with fail
      go_ret2
      exact HB.out
  have hk06 : 0 ≤ k ∧ k ≤ 6 := by omega
  by_cases hlo : n < lowk k
  · have hbx := box_is (w := w) (by unfold boxL; rw [if_neg hk6, if_neg h3, if_pos (.inl hlo)] : boxL k n = (0, 1)) hbl
    have HB := Lib.hid hbx; clear hbx hbl
    have H6 := Lib.hid hk6; clear hk6
    go_enter Tryz.func19, Tryz.ntmps19
    go_wp2_with fail
    refine (bounds_any k _ hk06).mono ?_
    rintro e w' ⟨rfl, rfl⟩
    go_wp2_with fail
    go_ret2
    exact HB.out
  by_cases hhi : highk k < n
  · have hbx := box_is (w := w) (by unfold boxL; rw [if_neg hk6, if_neg h3, if_pos (.inr hhi)] : boxL k n = (0, 1)) hbl
    have HB := Lib.hid hbx; clear hbx hbl
    have H6 := Lib.hid hk6; clear hk6
    go_enter Tryz.func19, Tryz.ntmps19
    go_wp2_with fail
    refine (bounds_any k _ hk06).mono ?_
    rintro e w' ⟨rfl, rfl⟩
    go_wp2_with fail
    go_ret2
    exact HB.out
  have hbx : boxL k n = (tagL k * 281474976710656 + n % 4294967296, 0) := by unfold boxL; rw [if_neg hk6, if_neg h3, if_neg (by omega)]
  have HBX := Lib.hid hbx; clear hbx
  have H6 := Lib.hid hk6; clear hk6
  have ht : 65529 ≤ tagL k ∧ tagL k ≤ 65534 := by unfold tagL; split <;> omega
  have hor := join48 (tagL k) (n % 4294967296) (by omega) (by omega) (by omega) (by omega)
  have hcv : IntKind.u32.wrap n = n % 4294967296 := IntKind.wrap_u32 n
  have HBL := Lib.hid hbl; clear hbl
  go_enter Tryz.func19, Tryz.ntmps19
  go_wp2_with fail
  refine (bounds_any k _ hk06).mono ?_
  rintro e w' ⟨rfl, rfl⟩
  go_wp2_with fail
  go_quiet ((go_at_call 52; refine Calls.quiet_of_same (tag_any k _ hk06)))
  go_wp2_with fail
  go_ret2
  exact box_is HBX.out (below_drewN HBL.out _)


end Go.Proofs.YtdlcooplllimeaaGreatDoor

/- nanbox.Unbox: a word's value. -/
namespace Go.Proofs.YtdlcooplllimeaaGreatDoor
open Go.RowKit

def sgn64 (w : Int) : Int := (w + 9223372036854775808) % 18446744073709551616 - 9223372036854775808
def sgn32 (n : Int) : Int := (n + 2147483648) % 4294967296 - 2147483648
/-- a word's kind by its tag, from the first one on -/
def kindL (w : Int) : Int := if 3 ≤ w / 281474976710656 - 65529 then w / 281474976710656 - 65529 + 1 else w / 281474976710656 - 65529
def numL (w : Int) : Int := if kindL w = 2 then sgn32 (w % 4294967296) else w % 4294967296
def unbL (w : Int) : Option (Int × Int) :=
  if w / 281474976710656 < 65529 ∨ 65534 < w / 281474976710656 then (if spo w = true ∧ w ≠ 9221120237041090561 then none else some (3, sgn64 w))
  else if boxL (kindL w) (numL w) = (w, 0) then some (kindL w, numL w) else none

def UnbPost (x : Int) (w : World) (e : Ending) (w' : World) : Prop := Below w.heap.size w w' ∧
  ((∃ k n, unbL x = some (k, n) ∧ e = .returned (.tuple #[.agg #[.int .i64 k, .int .i64 n], .int .i64 0])) ∨ (unbL x = none ∧ e = .returned (.tuple #[.agg #[.int .i64 0, .int .i64 0], .int .i64 3])))

set_option maxHeartbeats 800000 in
set_option maxRecDepth 100000 in
theorem unbox_any (x : Int) (w : World) (hx : 0 ≤ x ∧ x ≤ 18446744073709551615) : Calls Tryz.prog 110 #[.int .u64 x] w (UnbPost x w) := by
  by_cases ht : x / 281474976710656 < 65529 ∨ 65534 < x / 281474976710656
  · have hsg : IntKind.i64.wrap x = sgn64 x := IntKind.wrap_i64 x
    by_cases hs : spo x = true
    · by_cases ho : x = 9221120237041090561
      · have hu : unbL x = some (3, sgn64 x) := by unfold unbL; rw [if_pos ht, if_neg (by simp [ho])]
        have HU := Lib.hid hu; clear hu
        have HS := Lib.hid hs; clear hs
        have hb : (x != 9221120237041090561) = false := by simp [ho]
        have HO := Lib.hid ho; clear ho
        rcases ht with ht | ht
        · go_enter Tryz.func110, Tryz.ntmps110
          go_wp2_with fail
          refine (spoilt_any _ _ hx).mono ?_
          rintro e w' ⟨rfl, rfl⟩
          rw [HS.out]
          go_wp2_with fail
          refine bodyPost_ret (results_cell_tmp rfl _ _ w.heap.size _ _ _ rfl (Blk.new _ _ _) Tryz.underlying48 rfl (by kernel_rfl)) rfl ?_
          exact ⟨(Below.refl _ _).alloc (Nat.le_refl _) _, .inl ⟨_, _, HU.out, rfl⟩⟩
        · go_enter Tryz.func110, Tryz.ntmps110
          go_wp2_with fail
          refine (spoilt_any _ _ hx).mono ?_
          rintro e w' ⟨rfl, rfl⟩
          rw [HS.out]
          go_wp2_with fail
          refine bodyPost_ret (results_cell_tmp rfl _ _ w.heap.size _ _ _ rfl (Blk.new _ _ _) Tryz.underlying48 rfl (by kernel_rfl)) rfl ?_
          exact ⟨(Below.refl _ _).alloc (Nat.le_refl _) _, .inl ⟨_, _, HU.out, rfl⟩⟩
      · have hu : unbL x = none := by unfold unbL; rw [if_pos ht, if_pos ⟨hs, ho⟩]
        have HU := Lib.hid hu; clear hu
        have HS := Lib.hid hs; clear hs
        rcases ht with ht | ht
        · go_enter Tryz.func110, Tryz.ntmps110
          go_wp2_with fail
          refine (spoilt_any _ _ hx).mono ?_
          rintro e w' ⟨rfl, rfl⟩
          rw [HS.out]
          go_wp2_with fail
          refine bodyPost_ret (results_cell_tmp rfl _ _ w.heap.size _ _ _ rfl (Blk.new _ _ _) Tryz.underlying48 rfl (by kernel_rfl)) rfl ?_
          exact ⟨(Below.refl _ _).alloc (Nat.le_refl _) _, .inr ⟨HU.out, rfl⟩⟩
        · go_enter Tryz.func110, Tryz.ntmps110
          go_wp2_with fail
          refine (spoilt_any _ _ hx).mono ?_
          rintro e w' ⟨rfl, rfl⟩
          rw [HS.out]
          go_wp2_with fail
          refine bodyPost_ret (results_cell_tmp rfl _ _ w.heap.size _ _ _ rfl (Blk.new _ _ _) Tryz.underlying48 rfl (by kernel_rfl)) rfl ?_
          exact ⟨(Below.refl _ _).alloc (Nat.le_refl _) _, .inr ⟨HU.out, rfl⟩⟩
    · have hu : unbL x = some (3, sgn64 x) := by unfold unbL; rw [if_pos ht, if_neg (by simp [hs])]
      have HU := Lib.hid hu; clear hu
      have HS := Lib.hid (by simpa using hs : spo x = false); clear hs
      rcases ht with ht | ht
      · go_enter Tryz.func110, Tryz.ntmps110
        go_wp2_with fail
        refine (spoilt_any _ _ hx).mono ?_
        rintro e w' ⟨rfl, rfl⟩
        rw [HS.out]
        go_wp2_with fail
        refine bodyPost_ret (results_cell_tmp rfl _ _ w.heap.size _ _ _ rfl (Blk.new _ _ _) Tryz.underlying48 rfl (by kernel_rfl)) rfl ?_
        exact ⟨(Below.refl _ _).alloc (Nat.le_refl _) _, .inl ⟨_, _, HU.out, rfl⟩⟩
      · go_enter Tryz.func110, Tryz.ntmps110
        go_wp2_with fail
        refine (spoilt_any _ _ hx).mono ?_
        rintro e w' ⟨rfl, rfl⟩
        rw [HS.out]
        go_wp2_with fail
        refine bodyPost_ret (results_cell_tmp rfl _ _ w.heap.size _ _ _ rfl (Blk.new _ _ _) Tryz.underlying48 rfl (by kernel_rfl)) rfl ?_
        exact ⟨(Below.refl _ _).alloc (Nat.le_refl _) _, .inl ⟨_, _, HU.out, rfl⟩⟩
  · have hu : unbL x = if boxL (kindL x) (numL x) = (x, 0) then some (kindL x, numL x) else none := by unfold unbL; rw [if_neg ht]
    have HU := Lib.hid hu; clear hu
    have ht1 : 65529 ≤ x / 281474976710656 := by omega
    have ht2 : x / 281474976710656 ≤ 65534 := by omega
    clear ht
    have hI : I64 (kindL x) ∧ I64 (numL x) := by
      unfold I64 numL kindL sgn32
      constructor
      · split <;> omega
      · split <;> omega
    have HI := Lib.hid hI; clear hI
    by_cases h3 : 3 ≤ x / 281474976710656 - 65529
    · have hk : kindL x = x / 281474976710656 - 65529 + 1 := by simp [kindL, h3]
      have hn : numL x = x % 4294967296 := by unfold numL; rw [if_neg (by omega)]
      have HKN := Lib.hid (And.intro hk hn); clear hk hn
      go_enter Tryz.func110, Tryz.ntmps110
      go_wp2_with fail
      rw [← HKN.out.1, ← HKN.out.2]
      refine calls_world (fun W => Blk W w.heap.size 48 #[.int .i64 0, .int .i64 0] ∧ Blk W (w.heap.size + 1) 48 #[.int .i64 (kindL x), .int .i64 (numL x)] ∧ Below w.heap.size w W ∧ w.heap.size + 2 ≤ W.heap.size) ⟨(Blk.new _ _ _).alloc _, Blk.at_ (w.alloc _) _ _ (by simp), ((Below.refl _ _).alloc (Nat.le_refl _) _).alloc (by simp) _, by simp⟩ ?_
      rintro W ⟨hG, hV, hbl, hsz⟩
      refine (box_any (kindL x) (numL x) W HI.out.1 HI.out.2).mono ?_
      rintro e w' ⟨rfl, hb⟩
      have HG := Lib.hid (hG.fresh hb)
      have HV := Lib.hid (hV.fresh hb)
      have hbl' := hbl.trans (hb.mono (by omega))
      have hU := HU.out
      obtain ⟨y, z, hyz⟩ : ∃ y z, boxL (kindL x) (numL x) = (y, z) := ⟨_, _, rfl⟩
      rw [hyz] at hU ⊢
      clear hG hV hb hyz
      by_cases hz : z = 0
      · subst hz
        by_cases hy : y = x
        · rw [hy, if_pos rfl] at hU
          have HU2 := Lib.hid hU; clear hU
          have hy2 : (y != x) = false := by simp [hy]
          have HY := Lib.hid hy; clear hy
          go_wp2_with (first | (refine wpList_ld rfl 48 (.tmp 4) rfl (w.heap.size + 1) rfl HV.out Tryz.underlying48 rfl (by kernel_rfl) ?_) | (refine wpList_st rfl 48 (.tmp 2) (.tmp 61) rfl w.heap.size rfl rfl HG.out (by kernel_rfl) rfl rfl ?_))
          refine bodyPost_ret (results_cell_tmp rfl _ _ w.heap.size _ _ _ rfl HG.out.setRow Tryz.underlying48 rfl (by kernel_rfl)) rfl ?_
          exact ⟨bel_setRow hbl' (Nat.le_refl _) _, .inl ⟨_, _, HU2.out, rfl⟩⟩
        · rw [if_neg (by simp [hy])] at hU
          have HU2 := Lib.hid hU; clear hU
          have hy2 : (y != x) = true := by simp [hy]
          go_wp2_with (refine wpList_st rfl 48 (.tmp 2) (.tmp 60) rfl w.heap.size rfl rfl HG.out (by kernel_rfl) rfl rfl ?_)
          refine bodyPost_ret (results_cell_tmp rfl _ _ w.heap.size _ _ _ rfl HG.out.setRow Tryz.underlying48 rfl (by kernel_rfl)) rfl ?_
          exact ⟨bel_setRow hbl' (Nat.le_refl _) _, .inr ⟨HU2.out, rfl⟩⟩
      · rw [if_neg (by simp [hz])] at hU
        have HU2 := Lib.hid hU; clear hU
        have hz2 : (z != 0) = true := by simp [hz]
        go_wp2_with (refine wpList_st rfl 48 (.tmp 2) (.tmp 60) rfl w.heap.size rfl rfl HG.out (by kernel_rfl) rfl rfl ?_)
        refine bodyPost_ret (results_cell_tmp rfl _ _ w.heap.size _ _ _ rfl HG.out.setRow Tryz.underlying48 rfl (by kernel_rfl)) rfl ?_
        exact ⟨bel_setRow hbl' (Nat.le_refl _) _, .inr ⟨HU2.out, rfl⟩⟩
    have h3' : ¬ 3 ≤ x / 281474976710656 - 65529 := h3
    by_cases h2 : x / 281474976710656 - 65529 = 2
    · have hk : kindL x = 2 := by simp [kindL, h2]
      have hn : numL x = sgn32 (x % 4294967296) := by unfold numL; rw [if_pos hk]
      have HKN := Lib.hid (And.intro hk hn); clear hk hn
      have hw : IntKind.i32.wrap (x % 4294967296) = sgn32 (x % 4294967296) := IntKind.wrap_i32 _
      have hw2 : wrap64 (sgn32 (x % 4294967296)) = sgn32 (x % 4294967296) := IntWalk.wrap64_in _ (by unfold sgn32; omega)
      go_enter Tryz.func110, Tryz.ntmps110
      go_wp2_with fail
      try rw [hw2]
      rw [← HKN.out.2]
      refine calls_world (fun W => Blk W w.heap.size 48 #[.int .i64 0, .int .i64 0] ∧ Blk W (w.heap.size + 1) 48 #[.int .i64 2, .int .i64 (numL x)] ∧ Below w.heap.size w W ∧ w.heap.size + 2 ≤ W.heap.size) ⟨(Blk.new _ _ _).alloc _, Blk.at_ (w.alloc _) _ _ (by simp), ((Below.refl _ _).alloc (Nat.le_refl _) _).alloc (by simp) _, by simp⟩ ?_
      rintro W ⟨hG, hV, hbl, hsz⟩
      refine (box_any 2 (numL x) W (by unfold I64; omega) HI.out.2).mono ?_
      rintro e w' ⟨rfl, hb⟩
      have HG := Lib.hid (hG.fresh hb)
      have HV := Lib.hid (hV.fresh hb)
      have hbl' := hbl.trans (hb.mono (by omega))
      have hU := HU.out
      rw [HKN.out.1] at hU
      obtain ⟨y, z, hyz⟩ : ∃ y z, boxL 2 (numL x) = (y, z) := ⟨_, _, rfl⟩
      rw [hyz] at hU ⊢
      clear hG hV hb hyz
      by_cases hz : z = 0
      · subst hz
        by_cases hy : y = x
        · rw [hy, if_pos rfl] at hU
          have HU2 := Lib.hid hU; clear hU
          have hy2 : (y != x) = false := by simp [hy]
          have HY := Lib.hid hy; clear hy
          go_wp2_with (first | (refine wpList_ld rfl 48 (.tmp 4) rfl (w.heap.size + 1) rfl HV.out Tryz.underlying48 rfl (by kernel_rfl) ?_) | (refine wpList_st rfl 48 (.tmp 2) (.tmp 61) rfl w.heap.size rfl rfl HG.out (by kernel_rfl) rfl rfl ?_))
          refine bodyPost_ret (results_cell_tmp rfl _ _ w.heap.size _ _ _ rfl HG.out.setRow Tryz.underlying48 rfl (by kernel_rfl)) rfl ?_
          exact ⟨bel_setRow hbl' (Nat.le_refl _) _, .inl ⟨_, _, HU2.out, rfl⟩⟩
        · rw [if_neg (by simp [hy])] at hU
          have HU2 := Lib.hid hU; clear hU
          have hy2 : (y != x) = true := by simp [hy]
          go_wp2_with (refine wpList_st rfl 48 (.tmp 2) (.tmp 60) rfl w.heap.size rfl rfl HG.out (by kernel_rfl) rfl rfl ?_)
          refine bodyPost_ret (results_cell_tmp rfl _ _ w.heap.size _ _ _ rfl HG.out.setRow Tryz.underlying48 rfl (by kernel_rfl)) rfl ?_
          exact ⟨bel_setRow hbl' (Nat.le_refl _) _, .inr ⟨HU2.out, rfl⟩⟩
      · rw [if_neg (by simp [hz])] at hU
        have HU2 := Lib.hid hU; clear hU
        have hz2 : (z != 0) = true := by simp [hz]
        go_wp2_with (refine wpList_st rfl 48 (.tmp 2) (.tmp 60) rfl w.heap.size rfl rfl HG.out (by kernel_rfl) rfl rfl ?_)
        refine bodyPost_ret (results_cell_tmp rfl _ _ w.heap.size _ _ _ rfl HG.out.setRow Tryz.underlying48 rfl (by kernel_rfl)) rfl ?_
        exact ⟨bel_setRow hbl' (Nat.le_refl _) _, .inr ⟨HU2.out, rfl⟩⟩
    · have hk : kindL x = x / 281474976710656 - 65529 := by simp [kindL, h3]
      have hn : numL x = x % 4294967296 := by unfold numL; rw [if_neg (by omega)]
      have HKN := Lib.hid (And.intro hk hn); clear hk hn
      go_enter Tryz.func110, Tryz.ntmps110
      go_wp2_with fail
      rw [← HKN.out.1, ← HKN.out.2]
      refine calls_world (fun W => Blk W w.heap.size 48 #[.int .i64 0, .int .i64 0] ∧ Blk W (w.heap.size + 1) 48 #[.int .i64 (kindL x), .int .i64 (numL x)] ∧ Below w.heap.size w W ∧ w.heap.size + 2 ≤ W.heap.size) ⟨(Blk.new _ _ _).alloc _, Blk.at_ (w.alloc _) _ _ (by simp), ((Below.refl _ _).alloc (Nat.le_refl _) _).alloc (by simp) _, by simp⟩ ?_
      rintro W ⟨hG, hV, hbl, hsz⟩
      refine (box_any (kindL x) (numL x) W HI.out.1 HI.out.2).mono ?_
      rintro e w' ⟨rfl, hb⟩
      have HG := Lib.hid (hG.fresh hb)
      have HV := Lib.hid (hV.fresh hb)
      have hbl' := hbl.trans (hb.mono (by omega))
      have hU := HU.out
      obtain ⟨y, z, hyz⟩ : ∃ y z, boxL (kindL x) (numL x) = (y, z) := ⟨_, _, rfl⟩
      rw [hyz] at hU ⊢
      clear hG hV hb hyz
      by_cases hz : z = 0
      · subst hz
        by_cases hy : y = x
        · rw [hy, if_pos rfl] at hU
          have HU2 := Lib.hid hU; clear hU
          have hy2 : (y != x) = false := by simp [hy]
          have HY := Lib.hid hy; clear hy
          go_wp2_with (first | (refine wpList_ld rfl 48 (.tmp 4) rfl (w.heap.size + 1) rfl HV.out Tryz.underlying48 rfl (by kernel_rfl) ?_) | (refine wpList_st rfl 48 (.tmp 2) (.tmp 61) rfl w.heap.size rfl rfl HG.out (by kernel_rfl) rfl rfl ?_))
          refine bodyPost_ret (results_cell_tmp rfl _ _ w.heap.size _ _ _ rfl HG.out.setRow Tryz.underlying48 rfl (by kernel_rfl)) rfl ?_
          exact ⟨bel_setRow hbl' (Nat.le_refl _) _, .inl ⟨_, _, HU2.out, rfl⟩⟩
        · rw [if_neg (by simp [hy])] at hU
          have HU2 := Lib.hid hU; clear hU
          have hy2 : (y != x) = true := by simp [hy]
          go_wp2_with (refine wpList_st rfl 48 (.tmp 2) (.tmp 60) rfl w.heap.size rfl rfl HG.out (by kernel_rfl) rfl rfl ?_)
          refine bodyPost_ret (results_cell_tmp rfl _ _ w.heap.size _ _ _ rfl HG.out.setRow Tryz.underlying48 rfl (by kernel_rfl)) rfl ?_
          exact ⟨bel_setRow hbl' (Nat.le_refl _) _, .inr ⟨HU2.out, rfl⟩⟩
      · rw [if_neg (by simp [hz])] at hU
        have HU2 := Lib.hid hU; clear hU
        have hz2 : (z != 0) = true := by simp [hz]
        go_wp2_with (refine wpList_st rfl 48 (.tmp 2) (.tmp 60) rfl w.heap.size rfl rfl HG.out (by kernel_rfl) rfl rfl ?_)
        refine bodyPost_ret (results_cell_tmp rfl _ _ w.heap.size _ _ _ rfl HG.out.setRow Tryz.underlying48 rfl (by kernel_rfl)) rfl ?_
        exact ⟨bel_setRow hbl' (Nat.le_refl _) _, .inr ⟨HU2.out, rfl⟩⟩

end Go.Proofs.YtdlcooplllimeaaGreatDoor

/- The reference's Unbox: what it computes is what nanbox.Unbox computes (plain). -/
namespace Go.Proofs.YtdlcooplllimeaaGreatDoor
open Go.RowKit

def n48 (x : Int) : Int := if kindL x = 2 ∧ 2147483648 ≤ x % 281474976710656 then x % 281474976710656 - 4294967296 else x % 281474976710656
/-- the reference's value behind j of its six tags -/
def vk (x : Int) (j : Nat) : Int := if 65529 ≤ x / 281474976710656 ∧ x / 281474976710656 < 65529 + j then kindL x else 3
def vn (x : Int) (j : Nat) : Int := if 65529 ≤ x / 281474976710656 ∧ x / 281474976710656 < 65529 + j then n48 x else sgn64 x

theorem unb_ref (x : Int) (hx : 0 ≤ x ∧ x ≤ 18446744073709551615) : unbL x = if boxL (vk x 6) (vn x 6) = (x, 0) then some (vk x 6, vn x 6) else none := by
  by_cases ht : x / 281474976710656 < 65529 ∨ 65534 < x / 281474976710656
  · have h1 : vk x 6 = 3 := by unfold vk; rw [if_neg (by omega)]
    have h2 : vn x 6 = sgn64 x := by unfold vn; rw [if_neg (by omega)]
    have h3 : sgn64 x % 18446744073709551616 = x := by unfold sgn64; omega
    have hb : boxL 3 (sgn64 x) = if spo x = true then (9221120237041090561, 0) else (x, 0) := by unfold boxL; rw [if_neg (by omega), if_pos rfl, h3]
    rw [h1, h2, hb]
    unfold unbL
    rw [if_pos ht]
    by_cases hs : spo x = true
    · by_cases ho : x = 9221120237041090561
      · rw [if_neg (by simp [ho]), if_pos hs, if_pos (by rw [ho])]
      · rw [if_pos ⟨hs, ho⟩, if_pos hs, if_neg (by simp; exact fun h => ho h.symm)]
    · rw [if_neg (by simp [hs]), if_neg hs, if_pos rfl]
  · have h1 : vk x 6 = kindL x := by unfold vk; rw [if_pos (by omega)]
    have h2 : vn x 6 = n48 x := by unfold vn; rw [if_pos (by omega)]
    rw [h1, h2]
    have hk : 0 ≤ kindL x ∧ kindL x ≤ 6 ∧ kindL x ≠ 3 := by unfold kindL; split <;> omega
    have htg : tagL (kindL x) = x / 281474976710656 := by unfold tagL kindL; split <;> split <;> omega
    have hlh : lowk (kindL x) = (if kindL x = 2 then -2147483648 else 0) := rfl
    have hhh : highk (kindL x) ≤ 4294967295 := by unfold highk; split <;> (try split) <;> (try split) <;> omega
    unfold unbL
    rw [if_neg ht]
    by_cases hb : x % 281474976710656 < 4294967296
    · have : numL x = n48 x := by
        unfold numL n48 sgn32
        by_cases h2 : kindL x = 2
        · rw [if_pos h2]
          by_cases h3 : 2147483648 ≤ x % 281474976710656
          · rw [if_pos ⟨h2, h3⟩]; omega
          · rw [if_neg (by omega)]; omega
        · rw [if_neg h2, if_neg (by omega)]; omega
      rw [this]
    · have key : ∀ n : Int, boxL (kindL x) n ≠ (x, 0) := by
        intro n
        unfold boxL
        rw [if_neg (by omega), if_neg hk.2.2]
        split
        · simp
        · rw [htg]
          intro h
          injection h with h _
          omega
      rw [if_neg (key _), if_neg (key _)]

end Go.Proofs.YtdlcooplllimeaaGreatDoor

/- The reference's Unbox, walked. -/
namespace Go.Proofs.YtdlcooplllimeaaGreatDoor
open Go.RowKit

def kj (j : Nat) : Int := if 3 ≤ j then (j : Int) + 1 else j

theorem vk_same {x : Int} {j : Nat} (h : ¬ x / 281474976710656 = 65529 + (j : Int)) : vk x (j + 1) = vk x j ∧ vn x (j + 1) = vn x j := by
  have e : (65529 ≤ x / 281474976710656 ∧ x / 281474976710656 < 65529 + ((j + 1 : Nat) : Int)) ↔ (65529 ≤ x / 281474976710656 ∧ x / 281474976710656 < 65529 + (j : Int)) := by omega
  unfold vk vn
  simp only [e, and_self]
theorem vk_hit {x : Int} {j : Nat} (h : x / 281474976710656 = 65529 + (j : Int)) : vk x (j + 1) = kj j ∧ kindL x = kj j ∧ vn x (j + 1) = n48 x := by
  have hk : kindL x = kj j := by unfold kindL kj; split <;> split <;> omega
  refine ⟨?_, hk, ?_⟩
  · unfold vk; rw [if_pos (by omega)]; exact hk
  · unfold vn; rw [if_pos (by omega)]

def RUnbPost (x : Int) (w : World) (e : Ending) (w' : World) : Prop := Below w.heap.size w w' ∧
  ((∃ k n, unbL x = some (k, n) ∧ e = .returned (.tuple #[.agg #[.int .i64 k, .int .i64 n], .bool true])) ∨ (unbL x = none ∧ e = .returned (.tuple #[.agg #[.int .i64 0, .int .i64 0], .bool false])))

end Go.Proofs.YtdlcooplllimeaaGreatDoor

/- nanbox.Kind; the closed fact 'boxed'. -/
namespace Go.Proofs.YtdlcooplllimeaaGreatDoor
open Go.RowKit

def kindOf (x : Int) : Int := match unbL x with | some (k, _) => k | none => -1

set_option maxHeartbeats 800000 in
set_option maxRecDepth 100000 in
theorem kind_any (x : Int) (w : World) (hx : 0 ≤ x ∧ x ≤ 18446744073709551615) : Calls Tryz.prog 109 #[.int .u64 x] w fun e w' => e = .returned (.int .i64 (kindOf x)) ∧ Below w.heap.size w w' := by
  go_enter Tryz.func109, Tryz.ntmps109
  go_wp2_with fail
  refine (unbox_any x _ hx).mono ?_
  rintro e w' ⟨hb, hp⟩
  have hs := hb.size
  rcases hp with ⟨k, n, hu, rfl⟩ | ⟨hu, rfl⟩
  · have hk : kindOf x = k := by unfold kindOf; rw [hu]
    have HK := Lib.hid hk; clear hk hu
    go_wp2_with fail
    go_ret
    exact ⟨ret_i64 HK.out.symm, hb.alloc hs _⟩
  · have hk : kindOf x = -1 := by unfold kindOf; rw [hu]
    have HK := Lib.hid hk; clear hk hu
    go_wp2_with fail
    go_ret
    exact ⟨ret_i64 HK.out.symm, hb.alloc hs _⟩

theorem neqValB (x y x' y' : Int) (w : World) : (binOp .eql 48 (.agg #[.int .i64 x, .int .i64 y]) (.agg #[.int .i64 x', .int .i64 y'])).run Tryz.prog w = .ok (.bool (decide ((x, y) = (x', y')))) w := by
  have u3 := Tryz.underlying3
  have a3 := Tryz.isAgg3
  have z3 := Tryz.sizeOf3
  have hS : Tryz.prog.underlying 48 = some (.struct (Tryz.prog.fieldsOf 48)) := by kernel_rfl
  have hp : Tryz.prog.stoodInHeld 48 = false := by kernel_rfl
  rw [run_eql_struct, show (10000 : Nat) = 9999 + 1 from rfl, run_equalIn_agg w 9999 48 _ _ hS hp]
  simp only [Program.fieldsOf, Tryz.underlying48]
  go_simp
  by_cases h1 : x = x' <;> by_cases h2 : y = y' <;> simp [h1, h2]

end Go.Proofs.YtdlcooplllimeaaGreatDoor
