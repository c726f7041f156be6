/- nanbox.Unbox: a word's value. -/
import Derived.Test.YtpkccpegdpodoaaNan2
namespace Go.Proofs.Ytpkccpegdpodoaa
open Go.RowKit

def sgn64 (w : Int) : Int := (w + 9223372036854775808) % 18446744073709551616 - 9223372036854775808
def sgn32 (n : Int) : Int := (n + 2147483648) % 4294967296 - 2147483648
/-- a word's kind by its tag, from the first one on -/
def kindL (w : Int) : Int := if 3 ≤ w / 281474976710656 - 65529 then w / 281474976710656 - 65529 + 1 else w / 281474976710656 - 65529
def numL (w : Int) : Int := if kindL w = 2 then sgn32 (w % 4294967296) else w % 4294967296
def unbL (w : Int) : Option (Int × Int) :=
  if w / 281474976710656 < 65529 ∨ 65534 < w / 281474976710656 then (if spo w = true ∧ w ≠ 9221120237041090561 then none else some (3, sgn64 w))
  else if boxL (kindL w) (numL w) = (w, 0) then some (kindL w, numL w) else none

def UnbPost (x : Int) (w : World) (e : Ending) (w' : World) : Prop := Below w.heap.size w w' ∧
  ((∃ k n, unbL x = some (k, n) ∧ e = .returned (.tuple #[.agg #[.int .i64 k, .int .i64 n], .int .i64 0])) ∨ (unbL x = none ∧ e = .returned (.tuple #[.agg #[.int .i64 0, .int .i64 0], .int .i64 3])))

set_option maxHeartbeats 800000 in
set_option maxRecDepth 100000 in
theorem unbox_any (x : Int) (w : World) (hx : 0 ≤ x ∧ x ≤ 18446744073709551615) : Calls Try.prog 16 #[.int .u64 x] w (UnbPost x w) := by
  by_cases ht : x / 281474976710656 < 65529 ∨ 65534 < x / 281474976710656
  · have hsg : IntKind.i64.wrap x = sgn64 x := IntKind.wrap_i64 x
    by_cases hs : spo x = true
    · by_cases ho : x = 9221120237041090561
      · have hu : unbL x = some (3, sgn64 x) := by unfold unbL; rw [if_pos ht, if_neg (by simp [ho])]
        have HU := Lib.hid hu; clear hu
        have HS := Lib.hid hs; clear hs
        have hb : (x != 9221120237041090561) = false := by simp [ho]
        have HO := Lib.hid ho; clear ho
        rcases ht with ht | ht
        · go_enter Try.func16, Try.ntmps16
          go_wp2_with fail
          refine (spoilt_any _ _ hx).mono ?_
          rintro e w' ⟨rfl, rfl⟩
          rw [HS.out]
          go_wp2_with fail
          refine bodyPost_ret (results_cell_tmp rfl _ _ w.heap.size _ _ _ rfl (Blk.new _ _ _) Try.underlying23 rfl (by kernel_rfl)) rfl ?_
          exact ⟨(Below.refl _ _).alloc (Nat.le_refl _) _, .inl ⟨_, _, HU.out, rfl⟩⟩
        · go_enter Try.func16, Try.ntmps16
          go_wp2_with fail
          refine (spoilt_any _ _ hx).mono ?_
          rintro e w' ⟨rfl, rfl⟩
          rw [HS.out]
          go_wp2_with fail
          refine bodyPost_ret (results_cell_tmp rfl _ _ w.heap.size _ _ _ rfl (Blk.new _ _ _) Try.underlying23 rfl (by kernel_rfl)) rfl ?_
          exact ⟨(Below.refl _ _).alloc (Nat.le_refl _) _, .inl ⟨_, _, HU.out, rfl⟩⟩
      · have hu : unbL x = none := by unfold unbL; rw [if_pos ht, if_pos ⟨hs, ho⟩]
        have HU := Lib.hid hu; clear hu
        have HS := Lib.hid hs; clear hs
        rcases ht with ht | ht
        · go_enter Try.func16, Try.ntmps16
          go_wp2_with fail
          refine (spoilt_any _ _ hx).mono ?_
          rintro e w' ⟨rfl, rfl⟩
          rw [HS.out]
          go_wp2_with fail
          refine bodyPost_ret (results_cell_tmp rfl _ _ w.heap.size _ _ _ rfl (Blk.new _ _ _) Try.underlying23 rfl (by kernel_rfl)) rfl ?_
          exact ⟨(Below.refl _ _).alloc (Nat.le_refl _) _, .inr ⟨HU.out, rfl⟩⟩
        · go_enter Try.func16, Try.ntmps16
          go_wp2_with fail
          refine (spoilt_any _ _ hx).mono ?_
          rintro e w' ⟨rfl, rfl⟩
          rw [HS.out]
          go_wp2_with fail
          refine bodyPost_ret (results_cell_tmp rfl _ _ w.heap.size _ _ _ rfl (Blk.new _ _ _) Try.underlying23 rfl (by kernel_rfl)) rfl ?_
          exact ⟨(Below.refl _ _).alloc (Nat.le_refl _) _, .inr ⟨HU.out, rfl⟩⟩
    · have hu : unbL x = some (3, sgn64 x) := by unfold unbL; rw [if_pos ht, if_neg (by simp [hs])]
      have HU := Lib.hid hu; clear hu
      have HS := Lib.hid (by simpa using hs : spo x = false); clear hs
      rcases ht with ht | ht
      · go_enter Try.func16, Try.ntmps16
        go_wp2_with fail
        refine (spoilt_any _ _ hx).mono ?_
        rintro e w' ⟨rfl, rfl⟩
        rw [HS.out]
        go_wp2_with fail
        refine bodyPost_ret (results_cell_tmp rfl _ _ w.heap.size _ _ _ rfl (Blk.new _ _ _) Try.underlying23 rfl (by kernel_rfl)) rfl ?_
        exact ⟨(Below.refl _ _).alloc (Nat.le_refl _) _, .inl ⟨_, _, HU.out, rfl⟩⟩
      · go_enter Try.func16, Try.ntmps16
        go_wp2_with fail
        refine (spoilt_any _ _ hx).mono ?_
        rintro e w' ⟨rfl, rfl⟩
        rw [HS.out]
        go_wp2_with fail
        refine bodyPost_ret (results_cell_tmp rfl _ _ w.heap.size _ _ _ rfl (Blk.new _ _ _) Try.underlying23 rfl (by kernel_rfl)) rfl ?_
        exact ⟨(Below.refl _ _).alloc (Nat.le_refl _) _, .inl ⟨_, _, HU.out, rfl⟩⟩
  · have hu : unbL x = if boxL (kindL x) (numL x) = (x, 0) then some (kindL x, numL x) else none := by unfold unbL; rw [if_neg ht]
    have HU := Lib.hid hu; clear hu
    have ht1 : 65529 ≤ x / 281474976710656 := by omega
    have ht2 : x / 281474976710656 ≤ 65534 := by omega
    clear ht
    have hI : I64 (kindL x) ∧ I64 (numL x) := by
      unfold I64 numL kindL sgn32
      constructor
      · split <;> omega
      · split <;> omega
    have HI := Lib.hid hI; clear hI
    by_cases h3 : 3 ≤ x / 281474976710656 - 65529
    · have hk : kindL x = x / 281474976710656 - 65529 + 1 := by simp [kindL, h3]
      have hn : numL x = x % 4294967296 := by unfold numL; rw [if_neg (by omega)]
      have HKN := Lib.hid (And.intro hk hn); clear hk hn
      go_enter Try.func16, Try.ntmps16
      go_wp2_with fail
      rw [← HKN.out.1, ← HKN.out.2]
      refine calls_world (fun W => Blk W w.heap.size 23 #[.int .i64 0, .int .i64 0] ∧ Blk W (w.heap.size + 1) 23 #[.int .i64 (kindL x), .int .i64 (numL x)] ∧ Below w.heap.size w W ∧ w.heap.size + 2 ≤ W.heap.size) ⟨(Blk.new _ _ _).alloc _, Blk.at_ (w.alloc _) _ _ (by simp), ((Below.refl _ _).alloc (Nat.le_refl _) _).alloc (by simp) _, by simp⟩ ?_
      rintro W ⟨hG, hV, hbl, hsz⟩
      refine (box_any (kindL x) (numL x) W HI.out.1 HI.out.2).mono ?_
      rintro e w' ⟨rfl, hb⟩
      have HG := Lib.hid (hG.fresh hb)
      have HV := Lib.hid (hV.fresh hb)
      have hbl' := hbl.trans (hb.mono (by omega))
      have hU := HU.out
      obtain ⟨y, z, hyz⟩ : ∃ y z, boxL (kindL x) (numL x) = (y, z) := ⟨_, _, rfl⟩
      rw [hyz] at hU ⊢
      clear hG hV hb hyz
      by_cases hz : z = 0
      · subst hz
        by_cases hy : y = x
        · rw [hy, if_pos rfl] at hU
          have HU2 := Lib.hid hU; clear hU
          have hy2 : (y != x) = false := by simp [hy]
          have HY := Lib.hid hy; clear hy
          go_wp2_with (first | (refine wpList_ld rfl 23 (.tmp 4) rfl (w.heap.size + 1) rfl HV.out Try.underlying23 rfl (by kernel_rfl) ?_) | (refine wpList_st rfl 23 (.tmp 2) (.tmp 61) rfl w.heap.size rfl rfl HG.out (by kernel_rfl) rfl rfl ?_))
          refine bodyPost_ret (results_cell_tmp rfl _ _ w.heap.size _ _ _ rfl HG.out.setRow Try.underlying23 rfl (by kernel_rfl)) rfl ?_
          exact ⟨bel_setRow hbl' (Nat.le_refl _) _, .inl ⟨_, _, HU2.out, rfl⟩⟩
        · rw [if_neg (by simp [hy])] at hU
          have HU2 := Lib.hid hU; clear hU
          have hy2 : (y != x) = true := by simp [hy]
          go_wp2_with (refine wpList_st rfl 23 (.tmp 2) (.tmp 60) rfl w.heap.size rfl rfl HG.out (by kernel_rfl) rfl rfl ?_)
          refine bodyPost_ret (results_cell_tmp rfl _ _ w.heap.size _ _ _ rfl HG.out.setRow Try.underlying23 rfl (by kernel_rfl)) rfl ?_
          exact ⟨bel_setRow hbl' (Nat.le_refl _) _, .inr ⟨HU2.out, rfl⟩⟩
      · rw [if_neg (by simp [hz])] at hU
        have HU2 := Lib.hid hU; clear hU
        have hz2 : (z != 0) = true := by simp [hz]
        go_wp2_with (refine wpList_st rfl 23 (.tmp 2) (.tmp 60) rfl w.heap.size rfl rfl HG.out (by kernel_rfl) rfl rfl ?_)
        refine bodyPost_ret (results_cell_tmp rfl _ _ w.heap.size _ _ _ rfl HG.out.setRow Try.underlying23 rfl (by kernel_rfl)) rfl ?_
        exact ⟨bel_setRow hbl' (Nat.le_refl _) _, .inr ⟨HU2.out, rfl⟩⟩
    have h3' : ¬ 3 ≤ x / 281474976710656 - 65529 := h3
    by_cases h2 : x / 281474976710656 - 65529 = 2
    · have hk : kindL x = 2 := by simp [kindL, h2]
      have hn : numL x = sgn32 (x % 4294967296) := by unfold numL; rw [if_pos hk]
      have HKN := Lib.hid (And.intro hk hn); clear hk hn
      have hw : IntKind.i32.wrap (x % 4294967296) = sgn32 (x % 4294967296) := IntKind.wrap_i32 _
      have hw2 : wrap64 (sgn32 (x % 4294967296)) = sgn32 (x % 4294967296) := IntWalk.wrap64_in _ (by unfold sgn32; omega)
      go_enter Try.func16, Try.ntmps16
      go_wp2_with fail
      try rw [hw2]
      rw [← HKN.out.2]
      refine calls_world (fun W => Blk W w.heap.size 23 #[.int .i64 0, .int .i64 0] ∧ Blk W (w.heap.size + 1) 23 #[.int .i64 2, .int .i64 (numL x)] ∧ Below w.heap.size w W ∧ w.heap.size + 2 ≤ W.heap.size) ⟨(Blk.new _ _ _).alloc _, Blk.at_ (w.alloc _) _ _ (by simp), ((Below.refl _ _).alloc (Nat.le_refl _) _).alloc (by simp) _, by simp⟩ ?_
      rintro W ⟨hG, hV, hbl, hsz⟩
      refine (box_any 2 (numL x) W (by unfold I64; omega) HI.out.2).mono ?_
      rintro e w' ⟨rfl, hb⟩
      have HG := Lib.hid (hG.fresh hb)
      have HV := Lib.hid (hV.fresh hb)
      have hbl' := hbl.trans (hb.mono (by omega))
      have hU := HU.out
      rw [HKN.out.1] at hU
      obtain ⟨y, z, hyz⟩ : ∃ y z, boxL 2 (numL x) = (y, z) := ⟨_, _, rfl⟩
      rw [hyz] at hU ⊢
      clear hG hV hb hyz
      by_cases hz : z = 0
      · subst hz
        by_cases hy : y = x
        · rw [hy, if_pos rfl] at hU
          have HU2 := Lib.hid hU; clear hU
          have hy2 : (y != x) = false := by simp [hy]
          have HY := Lib.hid hy; clear hy
          go_wp2_with (first | (refine wpList_ld rfl 23 (.tmp 4) rfl (w.heap.size + 1) rfl HV.out Try.underlying23 rfl (by kernel_rfl) ?_) | (refine wpList_st rfl 23 (.tmp 2) (.tmp 61) rfl w.heap.size rfl rfl HG.out (by kernel_rfl) rfl rfl ?_))
          refine bodyPost_ret (results_cell_tmp rfl _ _ w.heap.size _ _ _ rfl HG.out.setRow Try.underlying23 rfl (by kernel_rfl)) rfl ?_
          exact ⟨bel_setRow hbl' (Nat.le_refl _) _, .inl ⟨_, _, HU2.out, rfl⟩⟩
        · rw [if_neg (by simp [hy])] at hU
          have HU2 := Lib.hid hU; clear hU
          have hy2 : (y != x) = true := by simp [hy]
          go_wp2_with (refine wpList_st rfl 23 (.tmp 2) (.tmp 60) rfl w.heap.size rfl rfl HG.out (by kernel_rfl) rfl rfl ?_)
          refine bodyPost_ret (results_cell_tmp rfl _ _ w.heap.size _ _ _ rfl HG.out.setRow Try.underlying23 rfl (by kernel_rfl)) rfl ?_
          exact ⟨bel_setRow hbl' (Nat.le_refl _) _, .inr ⟨HU2.out, rfl⟩⟩
      · rw [if_neg (by simp [hz])] at hU
        have HU2 := Lib.hid hU; clear hU
        have hz2 : (z != 0) = true := by simp [hz]
        go_wp2_with (refine wpList_st rfl 23 (.tmp 2) (.tmp 60) rfl w.heap.size rfl rfl HG.out (by kernel_rfl) rfl rfl ?_)
        refine bodyPost_ret (results_cell_tmp rfl _ _ w.heap.size _ _ _ rfl HG.out.setRow Try.underlying23 rfl (by kernel_rfl)) rfl ?_
        exact ⟨bel_setRow hbl' (Nat.le_refl _) _, .inr ⟨HU2.out, rfl⟩⟩
    · have hk : kindL x = x / 281474976710656 - 65529 := by simp [kindL, h3]
      have hn : numL x = x % 4294967296 := by unfold numL; rw [if_neg (by omega)]
      have HKN := Lib.hid (And.intro hk hn); clear hk hn
      go_enter Try.func16, Try.ntmps16
      go_wp2_with fail
      rw [← HKN.out.1, ← HKN.out.2]
      refine calls_world (fun W => Blk W w.heap.size 23 #[.int .i64 0, .int .i64 0] ∧ Blk W (w.heap.size + 1) 23 #[.int .i64 (kindL x), .int .i64 (numL x)] ∧ Below w.heap.size w W ∧ w.heap.size + 2 ≤ W.heap.size) ⟨(Blk.new _ _ _).alloc _, Blk.at_ (w.alloc _) _ _ (by simp), ((Below.refl _ _).alloc (Nat.le_refl _) _).alloc (by simp) _, by simp⟩ ?_
      rintro W ⟨hG, hV, hbl, hsz⟩
      refine (box_any (kindL x) (numL x) W HI.out.1 HI.out.2).mono ?_
      rintro e w' ⟨rfl, hb⟩
      have HG := Lib.hid (hG.fresh hb)
      have HV := Lib.hid (hV.fresh hb)
      have hbl' := hbl.trans (hb.mono (by omega))
      have hU := HU.out
      obtain ⟨y, z, hyz⟩ : ∃ y z, boxL (kindL x) (numL x) = (y, z) := ⟨_, _, rfl⟩
      rw [hyz] at hU ⊢
      clear hG hV hb hyz
      by_cases hz : z = 0
      · subst hz
        by_cases hy : y = x
        · rw [hy, if_pos rfl] at hU
          have HU2 := Lib.hid hU; clear hU
          have hy2 : (y != x) = false := by simp [hy]
          have HY := Lib.hid hy; clear hy
          go_wp2_with (first | (refine wpList_ld rfl 23 (.tmp 4) rfl (w.heap.size + 1) rfl HV.out Try.underlying23 rfl (by kernel_rfl) ?_) | (refine wpList_st rfl 23 (.tmp 2) (.tmp 61) rfl w.heap.size rfl rfl HG.out (by kernel_rfl) rfl rfl ?_))
          refine bodyPost_ret (results_cell_tmp rfl _ _ w.heap.size _ _ _ rfl HG.out.setRow Try.underlying23 rfl (by kernel_rfl)) rfl ?_
          exact ⟨bel_setRow hbl' (Nat.le_refl _) _, .inl ⟨_, _, HU2.out, rfl⟩⟩
        · rw [if_neg (by simp [hy])] at hU
          have HU2 := Lib.hid hU; clear hU
          have hy2 : (y != x) = true := by simp [hy]
          go_wp2_with (refine wpList_st rfl 23 (.tmp 2) (.tmp 60) rfl w.heap.size rfl rfl HG.out (by kernel_rfl) rfl rfl ?_)
          refine bodyPost_ret (results_cell_tmp rfl _ _ w.heap.size _ _ _ rfl HG.out.setRow Try.underlying23 rfl (by kernel_rfl)) rfl ?_
          exact ⟨bel_setRow hbl' (Nat.le_refl _) _, .inr ⟨HU2.out, rfl⟩⟩
      · rw [if_neg (by simp [hz])] at hU
        have HU2 := Lib.hid hU; clear hU
        have hz2 : (z != 0) = true := by simp [hz]
        go_wp2_with (refine wpList_st rfl 23 (.tmp 2) (.tmp 60) rfl w.heap.size rfl rfl HG.out (by kernel_rfl) rfl rfl ?_)
        refine bodyPost_ret (results_cell_tmp rfl _ _ w.heap.size _ _ _ rfl HG.out.setRow Try.underlying23 rfl (by kernel_rfl)) rfl ?_
        exact ⟨bel_setRow hbl' (Nat.le_refl _) _, .inr ⟨HU2.out, rfl⟩⟩

end Go.Proofs.Ytpkccpegdpodoaa
