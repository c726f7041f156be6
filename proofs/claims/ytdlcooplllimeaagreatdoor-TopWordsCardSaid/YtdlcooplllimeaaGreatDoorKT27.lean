/- KT: CdD. -/
import Derived.Test.YtdlcooplllimeaaGreatDoorKT13
/- code: is an order right in its place? What is so leads nowhere below 0. -/
namespace Go.Proofs.YtdlcooplllimeaaGreatDoor
open Go.RowKit

attribute [local go_sem ↓] Go.wp_at_zero Go.wp_at_succ

namespace Top
theorem str3_size (x y z : Nat) : (str3 [x, y, z]).size = 3 := rfl
theorem str3_run (x y z : Nat) (hx : x < 256) (hy : y < 256) (hz : z < 256) (w : World) :
    (Instr.index 9 (.string (str3 [x, y, z])) (.int .i64 0)).run Tryz.prog w = .ok (.int .u8 x) w ∧ (Instr.index 9 (.string (str3 [x, y, z])) (.int .i64 1)).run Tryz.prog w = .ok (.int .u8 y) w ∧ (Instr.index 9 (.string (str3 [x, y, z])) (.int .i64 2)).run Tryz.prog w = .ok (.int .u8 z) w := by
  have e : ∀ n : Nat, n < 256 → (UInt8.ofNat n).toNat = n := fun n hn => by rw [UInt8.toNat_ofNat']; omega
  have h0 : (str3 [x, y, z])[0]'(by rw [str3_size]; omega) = UInt8.ofNat x := rfl
  have h1 : (str3 [x, y, z])[1]'(by rw [str3_size]; omega) = UInt8.ofNat y := rfl
  have h2 : (str3 [x, y, z])[2]'(by rw [str3_size]; omega) = UInt8.ofNat z := rfl
  refine ⟨?_, ?_, ?_⟩
  · rw [run_index_string w _ _ _ _ Tryz.underlying9, dif_pos (by rw [str3_size]; decide)]
    show Result.ok (Value.int .u8 ((str3 [x, y, z])[0]'_).toNat) w = _
    rw [h0, e x hx]
  · rw [run_index_string w _ _ _ _ Tryz.underlying9, dif_pos (by rw [str3_size]; decide)]
    show Result.ok (Value.int .u8 ((str3 [x, y, z])[1]'_).toNat) w = _
    rw [h1, e y hy]
  · rw [run_index_string w _ _ _ _ Tryz.underlying9, dif_pos (by rw [str3_size]; decide)]
    show Result.ok (Value.int .u8 ((str3 [x, y, z])[2]'_).toNat) w = _
    rw [h2, e z hz]
theorem str3_ne (x y z : Nat) : (str3 [x, y, z]).toList.isEmpty = false := by rw [ByteArray.toList_eq]; rfl

set_option maxHeartbeats 3200000 in
set_option maxRecDepth 100000 in
theorem order_any (FA CA TA KA DA : Option Addr) (nf fc nc cc nt tc nk kc nd dc : Nat) (pa re : Int) (ge : Bool) (B : Nat) (fns : List Fn) (at_ : Int) (i : In) (w : World) (hF : At w B FA fns) (hn : fns.length = nf) (hB : B ≤ w.heap.size)
    (hnf : nf ≤ maxLen) (hnc : nc ≤ maxLen) (hnt : nt ≤ maxLen) (hnk : nk ≤ maxLen) (hnd : nd ≤ maxLen) :
    Calls Tryz.prog 118 #[.agg #[.slice FA nf fc, .slice CA nc cc, .slice TA nt tc, .int .i64 pa, .int .i64 re, .bool ge, .slice KA nk kc, .slice DA nd dc], .int .i64 at_, .agg #[.int .i64 i.op, .int .i64 i.a, .int .i64 i.b, .int .i64 i.c, .int .i64 i.line]] w fun e w' => ∃ b : Bool, e = .returned (.bool b) ∧ (b = true → tgt nf i) ∧ Below w.heap.size w w' := by
  have HF := Lib.hid (And.intro hF hn); clear hF hn
  go_enter Tryz.func118, Tryz.ntmps118
  go_upto_region 1 with fail
  refine wp_world (fun W => Blk W w.heap.size 211 #[.slice FA nf fc, .slice CA nc cc, .slice TA nt tc, .int .i64 pa, .int .i64 re, .bool ge, .slice KA nk kc, .slice DA nd dc] ∧ Blk W (w.heap.size + 1) 213 #[.int .i64 i.op, .int .i64 i.a, .int .i64 i.b, .int .i64 i.c, .int .i64 i.line] ∧ Below w.heap.size w W ∧ W.heap.size = w.heap.size + 2) ⟨(Blk.new _ _ _).alloc _, Blk.at_ _ _ _ (by simp), ((Below.refl _ _).alloc (Nat.le_refl _) _).alloc (by simp) _, by simp⟩ ?_
  rintro V ⟨hL, hI, hbV, hsV⟩
  have i0 := hI.cell 0 (v := .int .i64 i.op) rfl
  have HV := Lib.hid (And.intro hL (And.intro hI hbV)); clear hL hI hbV
  go_wp2_with fail
  refine (form_any i.op V).mono ?_
  rintro e W ⟨hf, hbW⟩
  have hsW := hbW.size
  have HW := Lib.hid (And.intro (HV.out.1.fresh hbW) (And.intro (HV.out.2.1.fresh hbW) (HV.out.2.2.trans (hbW.mono (by omega))))); clear HV i0 hbW
  have BX : Below W.heap.size W W.drew := (Below.refl _ _).drew
  rcases hf with rfl | ⟨k, x, y, z, hk, hfk, hx, hy, hz, rfl⟩
  · go_upto_region 2 with fail
    go_quiet (fail)
    go_wp2_with fail
    go_returns
    exact ⟨_, rfl, fun h => (by cases h), below_drewN HW.out.2.2 _⟩
  have hne := str3_ne x y z
  have hr0 := fun w => (str3_run x y z hx hy hz w).1
  have hr1 := fun w => (str3_run x y z hx hy hz w).2.1
  have hr2 := fun w => (str3_run x y z hx hy hz w).2.2
  obtain ⟨bl, hbl⟩ : ∃ bl, ∀ w, Calls Tryz.prog 151 #[.int .i64 i.line, .int .i64 0, .int .i64 2000] w fun e w' => e = .returned (.bool bl) ∧ w = w' := ⟨_, fun w => dwithin_any i.line 0 2000 w⟩
  obtain ⟨b1, a1, s1⟩ := names_says FA CA TA KA DA nf fc nc cc nt tc nk kc nd dc pa re ge x i.a hnf hnc hnt hnk hnd
  obtain ⟨b2, a2, s2⟩ := names_says FA CA TA KA DA nf fc nc cc nt tc nk kc nd dc pa re ge y i.b hnf hnc hnt hnk hnd
  obtain ⟨b3, a3, s3⟩ := names_says FA CA TA KA DA nf fc nc cc nt tc nk kc nd dc pa re ge z i.c hnf hnc hnt hnk hnd
  have ht : b1 = true → b2 = true → tgt nf i := fun h1 h2 => tgt_of hk hfk (a1 h1) (a2 h2)
  clear hfk hx hy hz a1 a2 a3
  obtain ⟨s, hs⟩ : ∃ s, str3 [x, y, z] = s := ⟨_, rfl⟩
  rw [hs] at hne hr0 hr1 hr2 ⊢
  clear hs
  have HK := Lib.hid (And.intro hk ht); clear hk ht
  have HS := Lib.hid (And.intro hbl (And.intro s1 (And.intro s2 s3))); clear hbl s1 s2 s3
  go_upto_region 2 with fail
  cases bl with
  | false =>
    clear hr0 hr1 hr2
    refine wp_region_held_drew (S := (fun w' => w'.cell? ⟨w.heap.size, 0, none⟩ = some (.slice FA nf fc) ∧ w'.cell? ⟨w.heap.size, 1, none⟩ = some (.slice CA nc cc) ∧ w'.cell? ⟨w.heap.size, 2, none⟩ = some (.slice TA nt tc) ∧ w'.cell? ⟨w.heap.size, 3, none⟩ = some (.int .i64 pa) ∧ w'.cell? ⟨w.heap.size, 4, none⟩ = some (.int .i64 re) ∧ w'.cell? ⟨w.heap.size, 5, none⟩ = some (.bool ge) ∧ w'.cell? ⟨w.heap.size, 6, none⟩ = some (.slice KA nk kc) ∧ w'.cell? ⟨w.heap.size, 7, none⟩ = some (.slice DA nd dc) ∧ w'.cell? ⟨w.heap.size + 1, 1, none⟩ = some (.int .i64 i.a) ∧ w'.cell? ⟨w.heap.size + 1, 2, none⟩ = some (.int .i64 i.b) ∧ w'.cell? ⟨w.heap.size + 1, 3, none⟩ = some (.int .i64 i.c) ∧ w'.cell? ⟨w.heap.size + 1, 4, none⟩ = some (.int .i64 i.line))) (by kernel_rfl) ?_ (fun hHeld0 => ?_)
    · first | trivial | ((try dsimp only); (exact ⟨(HW.out.1.fresh BX).cell 0 rfl, (HW.out.1.fresh BX).cell 1 rfl, (HW.out.1.fresh BX).cell 2 rfl, (HW.out.1.fresh BX).cell 3 rfl, (HW.out.1.fresh BX).cell 4 rfl, (HW.out.1.fresh BX).cell 5 rfl, (HW.out.1.fresh BX).cell 6 rfl, (HW.out.1.fresh BX).cell 7 rfl, (HW.out.2.1.fresh BX).cell 1 rfl, (HW.out.2.1.fresh BX).cell 2 rfl, (HW.out.2.1.fresh BX).cell 3 rfl, (HW.out.2.1.fresh BX).cell 4 rfl⟩))
    refine htk 0 rfl ?_
    try go_frame
    refine htk 1 rfl ?_
    try go_frame
    refine htk 2 rfl ?_
    try go_frame
    refine htk 3 rfl ?_
    try go_frame
    refine htk 4 rfl ?_
    try go_frame
    refine held_call 5 (by kernel_rfl) rfl (fun K hK => ?_)
    go_simp
    refine (HS.out.1 _).mono ?_; rintro e wA ⟨rfl, rfl⟩
    try (go_wp2_with fail)
    refine hK.out _ _ ?_ (fun hHeld1 => ?_)
    · first | trivial | ((try dsimp only); (exact ⟨(HW.out.1.fresh BX).cell 0 rfl, (HW.out.1.fresh BX).cell 1 rfl, (HW.out.1.fresh BX).cell 2 rfl, (HW.out.1.fresh BX).cell 3 rfl, (HW.out.1.fresh BX).cell 4 rfl, (HW.out.1.fresh BX).cell 5 rfl, (HW.out.1.fresh BX).cell 6 rfl, (HW.out.1.fresh BX).cell 7 rfl, (HW.out.2.1.fresh BX).cell 1 rfl, (HW.out.2.1.fresh BX).cell 2 rfl, (HW.out.2.1.fresh BX).cell 3 rfl, (HW.out.2.1.fresh BX).cell 4 rfl⟩))
    clear hK K hHeld0
    try go_frame
    refine htk 6 rfl ?_
    try go_frame
    refine htk 7 rfl ?_
    try go_frame
    refine htk 8 rfl ?_
    try go_frame
    refine hsk 9 rfl ?_
    try go_frame
    refine hsk 10 rfl ?_
    try go_frame
    refine hsk 11 rfl ?_
    try go_frame
    refine hsk 12 rfl ?_
    try go_frame
    refine hsk 13 rfl ?_
    try go_frame
    refine hsk 14 rfl ?_
    try go_frame
    refine hsk 15 rfl ?_
    try go_frame
    refine htk 16 rfl ?_
    try go_frame
    refine htk 17 rfl ?_
    try go_frame
    refine hsk 18 rfl ?_
    try go_frame
    refine hsk 19 rfl ?_
    try go_frame
    refine hsk 20 rfl ?_
    try go_frame
    refine hsk 21 rfl ?_
    try go_frame
    refine hsk 22 rfl ?_
    try go_frame
    refine hsk 23 rfl ?_
    try go_frame
    refine hsk 24 rfl ?_
    try go_frame
    refine htk 25 rfl ?_
    try go_frame
    refine htk 26 rfl ?_
    try go_frame
    refine hsk 27 rfl ?_
    try go_frame
    refine hsk 28 rfl ?_
    try go_frame
    refine hsk 29 rfl ?_
    try go_frame
    refine hsk 30 rfl ?_
    try go_frame
    refine hsk 31 rfl ?_
    try go_frame
    refine hsk 32 rfl ?_
    try go_frame
    refine hsk 33 rfl ?_
    try go_frame
    refine htk 34 rfl ?_
    try go_frame
    refine wpAnyH_done (by kernel_rfl) ?_ _
    go_wp2_with fail
    go_returns
    exact ⟨_, rfl, fun h => (by cases h), HW.out.2.2.trans (BX.mono (by omega))⟩
  | true =>
  cases b1 with
  | false =>
    clear hr1 hr2
    refine wp_region_held_drew (S := (fun w' => w'.cell? ⟨w.heap.size, 0, none⟩ = some (.slice FA nf fc) ∧ w'.cell? ⟨w.heap.size, 1, none⟩ = some (.slice CA nc cc) ∧ w'.cell? ⟨w.heap.size, 2, none⟩ = some (.slice TA nt tc) ∧ w'.cell? ⟨w.heap.size, 3, none⟩ = some (.int .i64 pa) ∧ w'.cell? ⟨w.heap.size, 4, none⟩ = some (.int .i64 re) ∧ w'.cell? ⟨w.heap.size, 5, none⟩ = some (.bool ge) ∧ w'.cell? ⟨w.heap.size, 6, none⟩ = some (.slice KA nk kc) ∧ w'.cell? ⟨w.heap.size, 7, none⟩ = some (.slice DA nd dc) ∧ w'.cell? ⟨w.heap.size + 1, 1, none⟩ = some (.int .i64 i.a) ∧ w'.cell? ⟨w.heap.size + 1, 2, none⟩ = some (.int .i64 i.b) ∧ w'.cell? ⟨w.heap.size + 1, 3, none⟩ = some (.int .i64 i.c) ∧ w'.cell? ⟨w.heap.size + 1, 4, none⟩ = some (.int .i64 i.line))) (by kernel_rfl) ?_ (fun hHeld0 => ?_)
    · first | trivial | ((try dsimp only); (exact ⟨(HW.out.1.fresh BX).cell 0 rfl, (HW.out.1.fresh BX).cell 1 rfl, (HW.out.1.fresh BX).cell 2 rfl, (HW.out.1.fresh BX).cell 3 rfl, (HW.out.1.fresh BX).cell 4 rfl, (HW.out.1.fresh BX).cell 5 rfl, (HW.out.1.fresh BX).cell 6 rfl, (HW.out.1.fresh BX).cell 7 rfl, (HW.out.2.1.fresh BX).cell 1 rfl, (HW.out.2.1.fresh BX).cell 2 rfl, (HW.out.2.1.fresh BX).cell 3 rfl, (HW.out.2.1.fresh BX).cell 4 rfl⟩))
    refine htk 0 rfl ?_
    try go_frame
    refine htk 1 rfl ?_
    try go_frame
    refine htk 2 rfl ?_
    try go_frame
    refine htk 3 rfl ?_
    try go_frame
    refine htk 4 rfl ?_
    try go_frame
    refine held_call 5 (by kernel_rfl) rfl (fun K hK => ?_)
    go_simp
    refine (HS.out.1 _).mono ?_; rintro e wA ⟨rfl, rfl⟩
    try (go_wp2_with fail)
    refine hK.out _ _ ?_ (fun hHeld1 => ?_)
    · first | trivial | ((try dsimp only); (exact ⟨(HW.out.1.fresh BX).cell 0 rfl, (HW.out.1.fresh BX).cell 1 rfl, (HW.out.1.fresh BX).cell 2 rfl, (HW.out.1.fresh BX).cell 3 rfl, (HW.out.1.fresh BX).cell 4 rfl, (HW.out.1.fresh BX).cell 5 rfl, (HW.out.1.fresh BX).cell 6 rfl, (HW.out.1.fresh BX).cell 7 rfl, (HW.out.2.1.fresh BX).cell 1 rfl, (HW.out.2.1.fresh BX).cell 2 rfl, (HW.out.2.1.fresh BX).cell 3 rfl, (HW.out.2.1.fresh BX).cell 4 rfl⟩))
    clear hK K hHeld0
    try go_frame
    refine htk 6 rfl ?_
    try go_frame
    refine htk 7 rfl ?_
    try go_frame
    refine htk 8 rfl ?_
    try go_frame
    refine htk 9 rfl ?_
    try go_frame
    refine htk 10 rfl ?_
    try go_frame
    refine htk 11 rfl ?_
    try go_frame
    refine htk 12 rfl ?_
    try go_frame
    refine htk 13 rfl ?_
    try go_frame
    refine held_call 14 (by kernel_rfl) rfl (fun K hK => ?_)
    go_simp
    refine (HS.out.2.1 _).mono ?_; rintro e wA ⟨rfl, hbA⟩; have BY := BX.trans (hbA.mono BX.size); clear BX; have BX := BY; clear BY
    try (go_wp2_with fail)
    refine hK.out _ _ ?_ (fun hHeld2 => ?_)
    · first | trivial | ((try dsimp only); (exact ⟨(HW.out.1.fresh BX).cell 0 rfl, (HW.out.1.fresh BX).cell 1 rfl, (HW.out.1.fresh BX).cell 2 rfl, (HW.out.1.fresh BX).cell 3 rfl, (HW.out.1.fresh BX).cell 4 rfl, (HW.out.1.fresh BX).cell 5 rfl, (HW.out.1.fresh BX).cell 6 rfl, (HW.out.1.fresh BX).cell 7 rfl, (HW.out.2.1.fresh BX).cell 1 rfl, (HW.out.2.1.fresh BX).cell 2 rfl, (HW.out.2.1.fresh BX).cell 3 rfl, (HW.out.2.1.fresh BX).cell 4 rfl⟩))
    clear hK K hHeld1
    try go_frame
    refine htk 15 rfl ?_
    try go_frame
    refine htk 16 rfl ?_
    try go_frame
    refine htk 17 rfl ?_
    try go_frame
    refine hsk 18 rfl ?_
    try go_frame
    refine hsk 19 rfl ?_
    try go_frame
    refine hsk 20 rfl ?_
    try go_frame
    refine hsk 21 rfl ?_
    try go_frame
    refine hsk 22 rfl ?_
    try go_frame
    refine hsk 23 rfl ?_
    try go_frame
    refine hsk 24 rfl ?_
    try go_frame
    refine htk 25 rfl ?_
    try go_frame
    refine htk 26 rfl ?_
    try go_frame
    refine hsk 27 rfl ?_
    try go_frame
    refine hsk 28 rfl ?_
    try go_frame
    refine hsk 29 rfl ?_
    try go_frame
    refine hsk 30 rfl ?_
    try go_frame
    refine hsk 31 rfl ?_
    try go_frame
    refine hsk 32 rfl ?_
    try go_frame
    refine hsk 33 rfl ?_
    try go_frame
    refine htk 34 rfl ?_
    try go_frame
    refine wpAnyH_done (by kernel_rfl) ?_ _
    go_wp2_with fail
    go_returns
    exact ⟨_, rfl, fun h => (by cases h), HW.out.2.2.trans (BX.mono (by omega))⟩
  | true =>
  cases b2 with
  | false =>
    clear hr2
    refine wp_region_held_drew (S := (fun w' => w'.cell? ⟨w.heap.size, 0, none⟩ = some (.slice FA nf fc) ∧ w'.cell? ⟨w.heap.size, 1, none⟩ = some (.slice CA nc cc) ∧ w'.cell? ⟨w.heap.size, 2, none⟩ = some (.slice TA nt tc) ∧ w'.cell? ⟨w.heap.size, 3, none⟩ = some (.int .i64 pa) ∧ w'.cell? ⟨w.heap.size, 4, none⟩ = some (.int .i64 re) ∧ w'.cell? ⟨w.heap.size, 5, none⟩ = some (.bool ge) ∧ w'.cell? ⟨w.heap.size, 6, none⟩ = some (.slice KA nk kc) ∧ w'.cell? ⟨w.heap.size, 7, none⟩ = some (.slice DA nd dc) ∧ w'.cell? ⟨w.heap.size + 1, 1, none⟩ = some (.int .i64 i.a) ∧ w'.cell? ⟨w.heap.size + 1, 2, none⟩ = some (.int .i64 i.b) ∧ w'.cell? ⟨w.heap.size + 1, 3, none⟩ = some (.int .i64 i.c) ∧ w'.cell? ⟨w.heap.size + 1, 4, none⟩ = some (.int .i64 i.line))) (by kernel_rfl) ?_ (fun hHeld0 => ?_)
    · first | trivial | ((try dsimp only); (exact ⟨(HW.out.1.fresh BX).cell 0 rfl, (HW.out.1.fresh BX).cell 1 rfl, (HW.out.1.fresh BX).cell 2 rfl, (HW.out.1.fresh BX).cell 3 rfl, (HW.out.1.fresh BX).cell 4 rfl, (HW.out.1.fresh BX).cell 5 rfl, (HW.out.1.fresh BX).cell 6 rfl, (HW.out.1.fresh BX).cell 7 rfl, (HW.out.2.1.fresh BX).cell 1 rfl, (HW.out.2.1.fresh BX).cell 2 rfl, (HW.out.2.1.fresh BX).cell 3 rfl, (HW.out.2.1.fresh BX).cell 4 rfl⟩))
    refine htk 0 rfl ?_
    try go_frame
    refine htk 1 rfl ?_
    try go_frame
    refine htk 2 rfl ?_
    try go_frame
    refine htk 3 rfl ?_
    try go_frame
    refine htk 4 rfl ?_
    try go_frame
    refine held_call 5 (by kernel_rfl) rfl (fun K hK => ?_)
    go_simp
    refine (HS.out.1 _).mono ?_; rintro e wA ⟨rfl, rfl⟩
    try (go_wp2_with fail)
    refine hK.out _ _ ?_ (fun hHeld1 => ?_)
    · first | trivial | ((try dsimp only); (exact ⟨(HW.out.1.fresh BX).cell 0 rfl, (HW.out.1.fresh BX).cell 1 rfl, (HW.out.1.fresh BX).cell 2 rfl, (HW.out.1.fresh BX).cell 3 rfl, (HW.out.1.fresh BX).cell 4 rfl, (HW.out.1.fresh BX).cell 5 rfl, (HW.out.1.fresh BX).cell 6 rfl, (HW.out.1.fresh BX).cell 7 rfl, (HW.out.2.1.fresh BX).cell 1 rfl, (HW.out.2.1.fresh BX).cell 2 rfl, (HW.out.2.1.fresh BX).cell 3 rfl, (HW.out.2.1.fresh BX).cell 4 rfl⟩))
    clear hK K hHeld0
    try go_frame
    refine htk 6 rfl ?_
    try go_frame
    refine htk 7 rfl ?_
    try go_frame
    refine htk 8 rfl ?_
    try go_frame
    refine htk 9 rfl ?_
    try go_frame
    refine htk 10 rfl ?_
    try go_frame
    refine htk 11 rfl ?_
    try go_frame
    refine htk 12 rfl ?_
    try go_frame
    refine htk 13 rfl ?_
    try go_frame
    refine held_call 14 (by kernel_rfl) rfl (fun K hK => ?_)
    go_simp
    refine (HS.out.2.1 _).mono ?_; rintro e wA ⟨rfl, hbA⟩; have BY := BX.trans (hbA.mono BX.size); clear BX; have BX := BY; clear BY
    try (go_wp2_with fail)
    refine hK.out _ _ ?_ (fun hHeld2 => ?_)
    · first | trivial | ((try dsimp only); (exact ⟨(HW.out.1.fresh BX).cell 0 rfl, (HW.out.1.fresh BX).cell 1 rfl, (HW.out.1.fresh BX).cell 2 rfl, (HW.out.1.fresh BX).cell 3 rfl, (HW.out.1.fresh BX).cell 4 rfl, (HW.out.1.fresh BX).cell 5 rfl, (HW.out.1.fresh BX).cell 6 rfl, (HW.out.1.fresh BX).cell 7 rfl, (HW.out.2.1.fresh BX).cell 1 rfl, (HW.out.2.1.fresh BX).cell 2 rfl, (HW.out.2.1.fresh BX).cell 3 rfl, (HW.out.2.1.fresh BX).cell 4 rfl⟩))
    clear hK K hHeld1
    try go_frame
    refine htk 15 rfl ?_
    try go_frame
    refine htk 16 rfl ?_
    try go_frame
    refine htk 17 rfl ?_
    try go_frame
    refine htk 18 rfl ?_
    try go_frame
    refine htk 19 rfl ?_
    try go_frame
    refine htk 20 rfl ?_
    try go_frame
    refine htk 21 rfl ?_
    try go_frame
    refine htk 22 rfl ?_
    try go_frame
    refine held_call 23 (by kernel_rfl) rfl (fun K hK => ?_)
    go_simp
    refine (HS.out.2.2.1 _).mono ?_; rintro e wA ⟨rfl, hbA⟩; have BY := BX.trans (hbA.mono BX.size); clear BX; have BX := BY; clear BY
    try (go_wp2_with fail)
    refine hK.out _ _ ?_ (fun hHeld3 => ?_)
    · first | trivial | ((try dsimp only); (exact ⟨(HW.out.1.fresh BX).cell 0 rfl, (HW.out.1.fresh BX).cell 1 rfl, (HW.out.1.fresh BX).cell 2 rfl, (HW.out.1.fresh BX).cell 3 rfl, (HW.out.1.fresh BX).cell 4 rfl, (HW.out.1.fresh BX).cell 5 rfl, (HW.out.1.fresh BX).cell 6 rfl, (HW.out.1.fresh BX).cell 7 rfl, (HW.out.2.1.fresh BX).cell 1 rfl, (HW.out.2.1.fresh BX).cell 2 rfl, (HW.out.2.1.fresh BX).cell 3 rfl, (HW.out.2.1.fresh BX).cell 4 rfl⟩))
    clear hK K hHeld2
    try go_frame
    refine htk 24 rfl ?_
    try go_frame
    refine htk 25 rfl ?_
    try go_frame
    refine htk 26 rfl ?_
    try go_frame
    refine hsk 27 rfl ?_
    try go_frame
    refine hsk 28 rfl ?_
    try go_frame
    refine hsk 29 rfl ?_
    try go_frame
    refine hsk 30 rfl ?_
    try go_frame
    refine hsk 31 rfl ?_
    try go_frame
    refine hsk 32 rfl ?_
    try go_frame
    refine hsk 33 rfl ?_
    try go_frame
    refine htk 34 rfl ?_
    try go_frame
    refine wpAnyH_done (by kernel_rfl) ?_ _
    go_wp2_with fail
    go_returns
    exact ⟨_, rfl, fun h => (by cases h), HW.out.2.2.trans (BX.mono (by omega))⟩
  | true =>
  have HT := Lib.hid (HK.out.2 rfl rfl)
  cases b3 with
  | false =>
    refine wp_region_held_drew (S := (fun w' => w'.cell? ⟨w.heap.size, 0, none⟩ = some (.slice FA nf fc) ∧ w'.cell? ⟨w.heap.size, 1, none⟩ = some (.slice CA nc cc) ∧ w'.cell? ⟨w.heap.size, 2, none⟩ = some (.slice TA nt tc) ∧ w'.cell? ⟨w.heap.size, 3, none⟩ = some (.int .i64 pa) ∧ w'.cell? ⟨w.heap.size, 4, none⟩ = some (.int .i64 re) ∧ w'.cell? ⟨w.heap.size, 5, none⟩ = some (.bool ge) ∧ w'.cell? ⟨w.heap.size, 6, none⟩ = some (.slice KA nk kc) ∧ w'.cell? ⟨w.heap.size, 7, none⟩ = some (.slice DA nd dc) ∧ w'.cell? ⟨w.heap.size + 1, 1, none⟩ = some (.int .i64 i.a) ∧ w'.cell? ⟨w.heap.size + 1, 2, none⟩ = some (.int .i64 i.b) ∧ w'.cell? ⟨w.heap.size + 1, 3, none⟩ = some (.int .i64 i.c) ∧ w'.cell? ⟨w.heap.size + 1, 4, none⟩ = some (.int .i64 i.line))) (by kernel_rfl) ?_ (fun hHeld0 => ?_)
    · first | trivial | ((try dsimp only); (exact ⟨(HW.out.1.fresh BX).cell 0 rfl, (HW.out.1.fresh BX).cell 1 rfl, (HW.out.1.fresh BX).cell 2 rfl, (HW.out.1.fresh BX).cell 3 rfl, (HW.out.1.fresh BX).cell 4 rfl, (HW.out.1.fresh BX).cell 5 rfl, (HW.out.1.fresh BX).cell 6 rfl, (HW.out.1.fresh BX).cell 7 rfl, (HW.out.2.1.fresh BX).cell 1 rfl, (HW.out.2.1.fresh BX).cell 2 rfl, (HW.out.2.1.fresh BX).cell 3 rfl, (HW.out.2.1.fresh BX).cell 4 rfl⟩))
    refine htk 0 rfl ?_
    try go_frame
    refine htk 1 rfl ?_
    try go_frame
    refine htk 2 rfl ?_
    try go_frame
    refine htk 3 rfl ?_
    try go_frame
    refine htk 4 rfl ?_
    try go_frame
    refine held_call 5 (by kernel_rfl) rfl (fun K hK => ?_)
    go_simp
    refine (HS.out.1 _).mono ?_; rintro e wA ⟨rfl, rfl⟩
    try (go_wp2_with fail)
    refine hK.out _ _ ?_ (fun hHeld1 => ?_)
    · first | trivial | ((try dsimp only); (exact ⟨(HW.out.1.fresh BX).cell 0 rfl, (HW.out.1.fresh BX).cell 1 rfl, (HW.out.1.fresh BX).cell 2 rfl, (HW.out.1.fresh BX).cell 3 rfl, (HW.out.1.fresh BX).cell 4 rfl, (HW.out.1.fresh BX).cell 5 rfl, (HW.out.1.fresh BX).cell 6 rfl, (HW.out.1.fresh BX).cell 7 rfl, (HW.out.2.1.fresh BX).cell 1 rfl, (HW.out.2.1.fresh BX).cell 2 rfl, (HW.out.2.1.fresh BX).cell 3 rfl, (HW.out.2.1.fresh BX).cell 4 rfl⟩))
    clear hK K hHeld0
    try go_frame
    refine htk 6 rfl ?_
    try go_frame
    refine htk 7 rfl ?_
    try go_frame
    refine htk 8 rfl ?_
    try go_frame
    refine htk 9 rfl ?_
    try go_frame
    refine htk 10 rfl ?_
    try go_frame
    refine htk 11 rfl ?_
    try go_frame
    refine htk 12 rfl ?_
    try go_frame
    refine htk 13 rfl ?_
    try go_frame
    refine held_call 14 (by kernel_rfl) rfl (fun K hK => ?_)
    go_simp
    refine (HS.out.2.1 _).mono ?_; rintro e wA ⟨rfl, hbA⟩; have BY := BX.trans (hbA.mono BX.size); clear BX; have BX := BY; clear BY
    try (go_wp2_with fail)
    refine hK.out _ _ ?_ (fun hHeld2 => ?_)
    · first | trivial | ((try dsimp only); (exact ⟨(HW.out.1.fresh BX).cell 0 rfl, (HW.out.1.fresh BX).cell 1 rfl, (HW.out.1.fresh BX).cell 2 rfl, (HW.out.1.fresh BX).cell 3 rfl, (HW.out.1.fresh BX).cell 4 rfl, (HW.out.1.fresh BX).cell 5 rfl, (HW.out.1.fresh BX).cell 6 rfl, (HW.out.1.fresh BX).cell 7 rfl, (HW.out.2.1.fresh BX).cell 1 rfl, (HW.out.2.1.fresh BX).cell 2 rfl, (HW.out.2.1.fresh BX).cell 3 rfl, (HW.out.2.1.fresh BX).cell 4 rfl⟩))
    clear hK K hHeld1
    try go_frame
    refine htk 15 rfl ?_
    try go_frame
    refine htk 16 rfl ?_
    try go_frame
    refine htk 17 rfl ?_
    try go_frame
    refine htk 18 rfl ?_
    try go_frame
    refine htk 19 rfl ?_
    try go_frame
    refine htk 20 rfl ?_
    try go_frame
    refine htk 21 rfl ?_
    try go_frame
    refine htk 22 rfl ?_
    try go_frame
    refine held_call 23 (by kernel_rfl) rfl (fun K hK => ?_)
    go_simp
    refine (HS.out.2.2.1 _).mono ?_; rintro e wA ⟨rfl, hbA⟩; have BY := BX.trans (hbA.mono BX.size); clear BX; have BX := BY; clear BY
    try (go_wp2_with fail)
    refine hK.out _ _ ?_ (fun hHeld3 => ?_)
    · first | trivial | ((try dsimp only); (exact ⟨(HW.out.1.fresh BX).cell 0 rfl, (HW.out.1.fresh BX).cell 1 rfl, (HW.out.1.fresh BX).cell 2 rfl, (HW.out.1.fresh BX).cell 3 rfl, (HW.out.1.fresh BX).cell 4 rfl, (HW.out.1.fresh BX).cell 5 rfl, (HW.out.1.fresh BX).cell 6 rfl, (HW.out.1.fresh BX).cell 7 rfl, (HW.out.2.1.fresh BX).cell 1 rfl, (HW.out.2.1.fresh BX).cell 2 rfl, (HW.out.2.1.fresh BX).cell 3 rfl, (HW.out.2.1.fresh BX).cell 4 rfl⟩))
    clear hK K hHeld2
    try go_frame
    refine htk 24 rfl ?_
    try go_frame
    refine htk 25 rfl ?_
    try go_frame
    refine htk 26 rfl ?_
    try go_frame
    refine htk 27 rfl ?_
    try go_frame
    refine htk 28 rfl ?_
    try go_frame
    refine htk 29 rfl ?_
    try go_frame
    refine htk 30 rfl ?_
    try go_frame
    refine htk 31 rfl ?_
    try go_frame
    refine held_call 32 (by kernel_rfl) rfl (fun K hK => ?_)
    go_simp
    refine (HS.out.2.2.2 _).mono ?_; rintro e wA ⟨rfl, hbA⟩; have BY := BX.trans (hbA.mono BX.size); clear BX; have BX := BY; clear BY
    try (go_wp2_with fail)
    refine hK.out _ _ ?_ (fun hHeld4 => ?_)
    · first | trivial | ((try dsimp only); (exact ⟨(HW.out.1.fresh BX).cell 0 rfl, (HW.out.1.fresh BX).cell 1 rfl, (HW.out.1.fresh BX).cell 2 rfl, (HW.out.1.fresh BX).cell 3 rfl, (HW.out.1.fresh BX).cell 4 rfl, (HW.out.1.fresh BX).cell 5 rfl, (HW.out.1.fresh BX).cell 6 rfl, (HW.out.1.fresh BX).cell 7 rfl, (HW.out.2.1.fresh BX).cell 1 rfl, (HW.out.2.1.fresh BX).cell 2 rfl, (HW.out.2.1.fresh BX).cell 3 rfl, (HW.out.2.1.fresh BX).cell 4 rfl⟩))
    clear hK K hHeld3
    try go_frame
    refine htk 33 rfl ?_
    try go_frame
    refine htk 34 rfl ?_
    try go_frame
    refine wpAnyH_done (by kernel_rfl) ?_ _
    go_wp2_with fail
    go_returns
    exact ⟨_, rfl, fun h => (by cases h), HW.out.2.2.trans (BX.mono (by omega))⟩
  | true =>
    refine wp_region_held_drew (S := (fun w' => w'.cell? ⟨w.heap.size, 0, none⟩ = some (.slice FA nf fc) ∧ w'.cell? ⟨w.heap.size, 1, none⟩ = some (.slice CA nc cc) ∧ w'.cell? ⟨w.heap.size, 2, none⟩ = some (.slice TA nt tc) ∧ w'.cell? ⟨w.heap.size, 3, none⟩ = some (.int .i64 pa) ∧ w'.cell? ⟨w.heap.size, 4, none⟩ = some (.int .i64 re) ∧ w'.cell? ⟨w.heap.size, 5, none⟩ = some (.bool ge) ∧ w'.cell? ⟨w.heap.size, 6, none⟩ = some (.slice KA nk kc) ∧ w'.cell? ⟨w.heap.size, 7, none⟩ = some (.slice DA nd dc) ∧ w'.cell? ⟨w.heap.size + 1, 1, none⟩ = some (.int .i64 i.a) ∧ w'.cell? ⟨w.heap.size + 1, 2, none⟩ = some (.int .i64 i.b) ∧ w'.cell? ⟨w.heap.size + 1, 3, none⟩ = some (.int .i64 i.c) ∧ w'.cell? ⟨w.heap.size + 1, 4, none⟩ = some (.int .i64 i.line))) (by kernel_rfl) ?_ (fun hHeld0 => ?_)
    · first | trivial | ((try dsimp only); (exact ⟨(HW.out.1.fresh BX).cell 0 rfl, (HW.out.1.fresh BX).cell 1 rfl, (HW.out.1.fresh BX).cell 2 rfl, (HW.out.1.fresh BX).cell 3 rfl, (HW.out.1.fresh BX).cell 4 rfl, (HW.out.1.fresh BX).cell 5 rfl, (HW.out.1.fresh BX).cell 6 rfl, (HW.out.1.fresh BX).cell 7 rfl, (HW.out.2.1.fresh BX).cell 1 rfl, (HW.out.2.1.fresh BX).cell 2 rfl, (HW.out.2.1.fresh BX).cell 3 rfl, (HW.out.2.1.fresh BX).cell 4 rfl⟩))
    refine htk 0 rfl ?_
    try go_frame
    refine htk 1 rfl ?_
    try go_frame
    refine htk 2 rfl ?_
    try go_frame
    refine htk 3 rfl ?_
    try go_frame
    refine htk 4 rfl ?_
    try go_frame
    refine held_call 5 (by kernel_rfl) rfl (fun K hK => ?_)
    go_simp
    refine (HS.out.1 _).mono ?_; rintro e wA ⟨rfl, rfl⟩
    try (go_wp2_with fail)
    refine hK.out _ _ ?_ (fun hHeld1 => ?_)
    · first | trivial | ((try dsimp only); (exact ⟨(HW.out.1.fresh BX).cell 0 rfl, (HW.out.1.fresh BX).cell 1 rfl, (HW.out.1.fresh BX).cell 2 rfl, (HW.out.1.fresh BX).cell 3 rfl, (HW.out.1.fresh BX).cell 4 rfl, (HW.out.1.fresh BX).cell 5 rfl, (HW.out.1.fresh BX).cell 6 rfl, (HW.out.1.fresh BX).cell 7 rfl, (HW.out.2.1.fresh BX).cell 1 rfl, (HW.out.2.1.fresh BX).cell 2 rfl, (HW.out.2.1.fresh BX).cell 3 rfl, (HW.out.2.1.fresh BX).cell 4 rfl⟩))
    clear hK K hHeld0
    try go_frame
    refine htk 6 rfl ?_
    try go_frame
    refine htk 7 rfl ?_
    try go_frame
    refine htk 8 rfl ?_
    try go_frame
    refine htk 9 rfl ?_
    try go_frame
    refine htk 10 rfl ?_
    try go_frame
    refine htk 11 rfl ?_
    try go_frame
    refine htk 12 rfl ?_
    try go_frame
    refine htk 13 rfl ?_
    try go_frame
    refine held_call 14 (by kernel_rfl) rfl (fun K hK => ?_)
    go_simp
    refine (HS.out.2.1 _).mono ?_; rintro e wA ⟨rfl, hbA⟩; have BY := BX.trans (hbA.mono BX.size); clear BX; have BX := BY; clear BY
    try (go_wp2_with fail)
    refine hK.out _ _ ?_ (fun hHeld2 => ?_)
    · first | trivial | ((try dsimp only); (exact ⟨(HW.out.1.fresh BX).cell 0 rfl, (HW.out.1.fresh BX).cell 1 rfl, (HW.out.1.fresh BX).cell 2 rfl, (HW.out.1.fresh BX).cell 3 rfl, (HW.out.1.fresh BX).cell 4 rfl, (HW.out.1.fresh BX).cell 5 rfl, (HW.out.1.fresh BX).cell 6 rfl, (HW.out.1.fresh BX).cell 7 rfl, (HW.out.2.1.fresh BX).cell 1 rfl, (HW.out.2.1.fresh BX).cell 2 rfl, (HW.out.2.1.fresh BX).cell 3 rfl, (HW.out.2.1.fresh BX).cell 4 rfl⟩))
    clear hK K hHeld1
    try go_frame
    refine htk 15 rfl ?_
    try go_frame
    refine htk 16 rfl ?_
    try go_frame
    refine htk 17 rfl ?_
    try go_frame
    refine htk 18 rfl ?_
    try go_frame
    refine htk 19 rfl ?_
    try go_frame
    refine htk 20 rfl ?_
    try go_frame
    refine htk 21 rfl ?_
    try go_frame
    refine htk 22 rfl ?_
    try go_frame
    refine held_call 23 (by kernel_rfl) rfl (fun K hK => ?_)
    go_simp
    refine (HS.out.2.2.1 _).mono ?_; rintro e wA ⟨rfl, hbA⟩; have BY := BX.trans (hbA.mono BX.size); clear BX; have BX := BY; clear BY
    try (go_wp2_with fail)
    refine hK.out _ _ ?_ (fun hHeld3 => ?_)
    · first | trivial | ((try dsimp only); (exact ⟨(HW.out.1.fresh BX).cell 0 rfl, (HW.out.1.fresh BX).cell 1 rfl, (HW.out.1.fresh BX).cell 2 rfl, (HW.out.1.fresh BX).cell 3 rfl, (HW.out.1.fresh BX).cell 4 rfl, (HW.out.1.fresh BX).cell 5 rfl, (HW.out.1.fresh BX).cell 6 rfl, (HW.out.1.fresh BX).cell 7 rfl, (HW.out.2.1.fresh BX).cell 1 rfl, (HW.out.2.1.fresh BX).cell 2 rfl, (HW.out.2.1.fresh BX).cell 3 rfl, (HW.out.2.1.fresh BX).cell 4 rfl⟩))
    clear hK K hHeld2
    try go_frame
    refine htk 24 rfl ?_
    try go_frame
    refine htk 25 rfl ?_
    try go_frame
    refine htk 26 rfl ?_
    try go_frame
    refine htk 27 rfl ?_
    try go_frame
    refine htk 28 rfl ?_
    try go_frame
    refine htk 29 rfl ?_
    try go_frame
    refine htk 30 rfl ?_
    try go_frame
    refine htk 31 rfl ?_
    try go_frame
    refine held_call 32 (by kernel_rfl) rfl (fun K hK => ?_)
    go_simp
    refine (HS.out.2.2.2 _).mono ?_; rintro e wA ⟨rfl, hbA⟩; have BY := BX.trans (hbA.mono BX.size); clear BX; have BX := BY; clear BY
    try (go_wp2_with fail)
    refine hK.out _ _ ?_ (fun hHeld4 => ?_)
    · first | trivial | ((try dsimp only); (exact ⟨(HW.out.1.fresh BX).cell 0 rfl, (HW.out.1.fresh BX).cell 1 rfl, (HW.out.1.fresh BX).cell 2 rfl, (HW.out.1.fresh BX).cell 3 rfl, (HW.out.1.fresh BX).cell 4 rfl, (HW.out.1.fresh BX).cell 5 rfl, (HW.out.1.fresh BX).cell 6 rfl, (HW.out.1.fresh BX).cell 7 rfl, (HW.out.2.1.fresh BX).cell 1 rfl, (HW.out.2.1.fresh BX).cell 2 rfl, (HW.out.2.1.fresh BX).cell 3 rfl, (HW.out.2.1.fresh BX).cell 4 rfl⟩))
    clear hK K hHeld3
    try go_frame
    refine htk 33 rfl ?_
    try go_frame
    refine htk 34 rfl ?_
    try go_frame
    refine wpAnyH_done (by kernel_rfl) ?_ _
    go_upto_region 4 with fail
    refine wp_world (fun Z => Below W.heap.size W Z) BX ?_
    rintro Z hZ
    have e0 := (HW.out.2.1.fresh hZ).cell 0 (v := .int .i64 i.op) rfl
    have e1 := (HW.out.2.1.fresh hZ).cell 1 (v := .int .i64 i.a) rfl
    have e2 := (HW.out.2.1.fresh hZ).cell 2 (v := .int .i64 i.b) rfl
    have e3 := (HW.out.2.1.fresh hZ).cell 3 (v := .int .i64 i.c) rfl
    have l0 := (HW.out.1.fresh hZ).cell 0 (v := .slice FA nf fc) rfl
    have l1 := (HW.out.1.fresh hZ).cell 1 (v := .slice CA nc cc) rfl
    have l2 := (HW.out.1.fresh hZ).cell 2 (v := .slice TA nt tc) rfl
    have l3 := (HW.out.1.fresh hZ).cell 3 (v := .int .i64 pa) rfl
    have l4 := (HW.out.1.fresh hZ).cell 4 (v := .int .i64 re) rfl
    have l5 := (HW.out.1.fresh hZ).cell 5 (v := .bool ge) rfl
    have l6 := (HW.out.1.fresh hZ).cell 6 (v := .slice KA nk kc) rfl
    have l7 := (HW.out.1.fresh hZ).cell 7 (v := .slice DA nd dc) rfl
    have hbZ := HW.out.2.2.trans (hZ.mono (by omega))
    clear hr0 hr1 hr2 hne BX
    by_cases o14 : i.op = 14
    · rw [o14] at e0
      clear l0 l1 l2 l3 l4 l5 l6 l7 e2 e3
      go_wp2_with fail
      go_returns
      exact ⟨_, rfl, fun _ => HT.out, hbZ⟩
    by_cases o19 : i.op = 19
    · rw [o19] at e0
      clear l0 l1 l2 l3 l5 l6 l7 e1 o14
      go_wp2_with fail
      go_returns
      exact ⟨_, rfl, fun _ => HT.out, hbZ⟩
    by_cases o27 : i.op = 27
    · rw [o27] at e0
      clear e1 o14 o19
      obtain ⟨q, hq⟩ : ∃ q, IntKind.i64.wrap (i.b + i.c) = q := ⟨_, rfl⟩
      obtain ⟨b, hb⟩ := reg_says FA CA TA KA DA nf fc nc cc nt tc nk kc nd dc pa re ge q
      have HB := Lib.hid hb; clear hb
      go_wp2_with fail
      refine (HB.out _).mono ?_
      rintro e wR ⟨rfl, hbR⟩
      have HR := Lib.hid (hbZ.trans (hbR.mono (by have := hbZ.size; omega))); clear hbR l0 l1 l2 l3 l4 l5 l6 l7 e0 e2 e3
      go_wp2_with fail
      go_returns
      exact ⟨_, rfl, fun _ => HT.out, HR.out⟩
    by_cases o26 : i.op = 26
    · rw [o26] at e0
      have htt := HT.out.2.2.2.2 o26
      obtain ⟨m, hm⟩ : ∃ m : Nat, i.b = m := ⟨i.b.toNat, by omega⟩
      obtain ⟨b, o, x, XA, xc, YA, yc, rfl, hbb, hx, f0, f1, f2, f3, f4, hX, hXc, hY, hYc, -⟩ := (HF.out.1.below (hbZ.mono hB)).fn_ (k := m) (by have := HF.out.2; omega)
      have m0 : (0 : Int) ≤ (m : Int) := by omega
      have m1 : (m : Int) < (nf : Int) := by omega
      have hZ0 := hZ.size
      have hcg := fun V (hV : Below Z.heap.size Z V) => caught_any (some ⟨b, o, none⟩) CA TA KA DA nf fc nc cc nt tc nk kc nd dc pa re ge x XA YA xc yc B V (hX.below (hV.mono (by omega))) hXc (by have := hV.size; omega) hnk
      have HC := Lib.hid (And.intro hcg (And.intro (HW.out.1.fresh hZ) (HW.out.2.1.fresh hZ))); clear hcg hX hY hx htt
      rw [hm] at e2
      have HF3 := Lib.hid (And.intro e2 (And.intro f0 (And.intro f1 (And.intro f2 (And.intro f3 f4)))))
      clear e1 e3 o14 o19 o27 hm
      go_upto_region 12 with fail
      have BX : Below Z.heap.size Z Z.drew := (Below.refl _ _).drew
      refine wp_region_held_drew (S := (fun w' => w'.cell? ⟨w.heap.size, 0, none⟩ = some (.slice (some ⟨b, o, none⟩) nf fc) ∧ w'.cell? ⟨w.heap.size, 1, none⟩ = some (.slice CA nc cc) ∧ w'.cell? ⟨w.heap.size, 2, none⟩ = some (.slice TA nt tc) ∧ w'.cell? ⟨w.heap.size, 3, none⟩ = some (.int .i64 pa) ∧ w'.cell? ⟨w.heap.size, 4, none⟩ = some (.int .i64 re) ∧ w'.cell? ⟨w.heap.size, 5, none⟩ = some (.bool ge) ∧ w'.cell? ⟨w.heap.size, 6, none⟩ = some (.slice KA nk kc) ∧ w'.cell? ⟨w.heap.size, 7, none⟩ = some (.slice DA nd dc) ∧ w'.cell? ⟨w.heap.size + 1, 2, none⟩ = some (.int .i64 m) ∧ w'.cell? ⟨b, o + m * 5, none⟩ = some (.int .i64 x.params) ∧ w'.cell? ⟨b, o + m * 5 + 1, none⟩ = some (.int .i64 x.regs) ∧ w'.cell? ⟨b, o + m * 5 + 2, none⟩ = some (.bool x.gen) ∧ w'.cell? ⟨b, o + m * 5 + 3, none⟩ = some (.slice XA x.caught.length xc) ∧ w'.cell? ⟨b, o + m * 5 + 4, none⟩ = some (.slice YA x.code.length yc))) (by kernel_rfl) ?_ (fun hHeld0 => ?_)
      · first | trivial | ((try dsimp only); (exact ⟨(HC.out.2.1.fresh BX).cell 0 rfl, (HC.out.2.1.fresh BX).cell 1 rfl, (HC.out.2.1.fresh BX).cell 2 rfl, (HC.out.2.1.fresh BX).cell 3 rfl, (HC.out.2.1.fresh BX).cell 4 rfl, (HC.out.2.1.fresh BX).cell 5 rfl, (HC.out.2.1.fresh BX).cell 6 rfl, (HC.out.2.1.fresh BX).cell 7 rfl, (BX.cell (by simp; omega)).trans HF3.out.1, (BX.cell (by simp; omega)).trans HF3.out.2.1, (BX.cell (by simp; omega)).trans HF3.out.2.2.1, (BX.cell (by simp; omega)).trans HF3.out.2.2.2.1, (BX.cell (by simp; omega)).trans HF3.out.2.2.2.2.1, (BX.cell (by simp; omega)).trans HF3.out.2.2.2.2.2⟩))
      refine htk 0 rfl ?_
      try go_frame
      refine htk 1 rfl ?_
      try go_frame
      refine htk 2 rfl ?_
      try go_frame
      refine htk 3 rfl ?_
      try go_frame
      refine htk 4 rfl ?_
      try go_frame
      refine htk 5 rfl ?_
      try go_frame
      refine htk 6 rfl ?_
      try go_frame
      refine htk 7 rfl ?_
      try go_frame
      refine held_call 8 (by kernel_rfl) rfl (fun K hK => ?_)
      go_simp
      refine (HC.out.1 _ BX).mono ?_; rintro e wR ⟨bR, rfl, hbR⟩; have BY := BX.trans (hbR.mono BX.size); clear BX; have BX := BY; clear BY
      try (go_wp2_with fail)
      refine hK.out _ _ ?_ (fun hHeld1 => ?_)
      · first | trivial | ((try dsimp only); (exact ⟨(HC.out.2.1.fresh BX).cell 0 rfl, (HC.out.2.1.fresh BX).cell 1 rfl, (HC.out.2.1.fresh BX).cell 2 rfl, (HC.out.2.1.fresh BX).cell 3 rfl, (HC.out.2.1.fresh BX).cell 4 rfl, (HC.out.2.1.fresh BX).cell 5 rfl, (HC.out.2.1.fresh BX).cell 6 rfl, (HC.out.2.1.fresh BX).cell 7 rfl, (BX.cell (by simp; omega)).trans HF3.out.1, (BX.cell (by simp; omega)).trans HF3.out.2.1, (BX.cell (by simp; omega)).trans HF3.out.2.2.1, (BX.cell (by simp; omega)).trans HF3.out.2.2.2.1, (BX.cell (by simp; omega)).trans HF3.out.2.2.2.2.1, (BX.cell (by simp; omega)).trans HF3.out.2.2.2.2.2⟩))
      clear hK K hHeld0
      try go_frame
      refine htk 9 rfl ?_
      try go_frame
      refine wpAnyH_done (by kernel_rfl) ?_ _
      go_wp2_with fail
      go_returns
      exact ⟨_, rfl, fun _ => HT.out, hbZ.trans (BX.mono (by omega))⟩
    have d14 : (i.op == 14) = false := by simpa using o14
    have d19 : (i.op == 19) = false := by simpa using o19
    have d27 : (i.op == 27) = false := by simpa using o27
    have d26 : (i.op == 26) = false := by simpa using o26
    clear o14 o19 o27 o26 e1 e2 e3 l0 l1 l2 l3 l4 l6 l7
    by_cases o32 : i.op = 32
    · rw [o32] at e0
      clear d14 d19 d27 d26
      go_wp2_with fail
      go_returns
      exact ⟨_, rfl, fun _ => HT.out, hbZ⟩
    have d32 : (i.op == 32) = false := by simpa using o32
    clear o32
    go_wp2_with fail
    go_returns
    exact ⟨_, rfl, fun _ => HT.out, hbZ⟩
end Top
end Go.Proofs.YtdlcooplllimeaaGreatDoor
