/- The reference's Unbox, walked. -/
import Derived.Test.YtpkccpegdpodoaaNan4
namespace Go.Proofs.Ytpkccpegdpodoaa
open Go.RowKit

def kj (j : Nat) : Int := if 3 ≤ j then (j : Int) + 1 else j

theorem vk_same {x : Int} {j : Nat} (h : ¬ x / 281474976710656 = 65529 + (j : Int)) : vk x (j + 1) = vk x j ∧ vn x (j + 1) = vn x j := by
  have e : (65529 ≤ x / 281474976710656 ∧ x / 281474976710656 < 65529 + ((j + 1 : Nat) : Int)) ↔ (65529 ≤ x / 281474976710656 ∧ x / 281474976710656 < 65529 + (j : Int)) := by omega
  unfold vk vn
  simp only [e, and_self]
theorem vk_hit {x : Int} {j : Nat} (h : x / 281474976710656 = 65529 + (j : Int)) : vk x (j + 1) = kj j ∧ kindL x = kj j ∧ vn x (j + 1) = n48 x := by
  have hk : kindL x = kj j := by unfold kindL kj; split <;> split <;> omega
  refine ⟨?_, hk, ?_⟩
  · unfold vk; rw [if_pos (by omega)]; exact hk
  · unfold vn; rw [if_pos (by omega)]

def RUnbPost (x : Int) (w : World) (e : Ending) (w' : World) : Prop := Below w.heap.size w w' ∧
  ((∃ k n, unbL x = some (k, n) ∧ e = .returned (.tuple #[.agg #[.int .i64 k, .int .i64 n], .bool true])) ∨ (unbL x = none ∧ e = .returned (.tuple #[.agg #[.int .i64 0, .int .i64 0], .bool false])))

set_option maxHeartbeats 1600000 in
set_option maxRecDepth 100000 in
theorem runbox_any (x : Int) (w : World) (hx : 0 ≤ x ∧ x ≤ 18446744073709551615) : Calls Try.prog 17 #[.int .u64 x] w (RUnbPost x w) := by
  have hsg : IntKind.i64.wrap x = sgn64 x := IntKind.wrap_i64 x
  have hsg2 : wrap64 x = sgn64 x := by rw [← hsg]; exact (IntWalk.i64_left x).symm
  go_enter Try.func17, Try.ntmps17
  go_wp2_with fail
  refine wp_world (fun W => Blk W w.heap.size 23 #[.int .i64 0, .int .i64 0] ∧ Blk W (w.heap.size + 1) 23 #[.int .i64 (vk x 0), .int .i64 (vn x 0)] ∧ Blk W (w.heap.size + 1 + 1) 3 #[.int .i64 0, .int .i64 1, .int .i64 2, .int .i64 4, .int .i64 5, .int .i64 6] ∧ Below w.heap.size w W ∧ w.heap.size + 3 ≤ W.heap.size) ⟨?_, ?_, ?_, ?_, ?_⟩ ?_
  · exact ((Blk.new _ _ _).alloc _).alloc _
  · have h1 : vk x 0 = 3 := by unfold vk; rw [if_neg (by omega)]
    have h2 : vn x 0 = sgn64 x := by unfold vn; rw [if_neg (by omega)]
    rw [h1, h2]
    exact (Blk.at_ (w.alloc _) _ _ (by simp)).alloc _
  · exact Blk.at_ ((w.alloc _).alloc _) _ _ (by simp)
  · exact (((Below.refl _ _).alloc (Nat.le_refl _) _).alloc (by simp) _).alloc (by simp; omega) _
  · simp
  rintro W ⟨hG, hV, hL, hbl, hsz⟩
  go_loopw [14] (fun i wr => ∃ (j : Nat), j ≤ 6 ∧ i = .int .i64 j ∧ Hid (Blk wr w.heap.size 23 #[.int .i64 0, .int .i64 0] ∧ Blk wr (w.heap.size + 1) 23 #[.int .i64 (vk x j), .int .i64 (vn x j)] ∧ Blk wr (w.heap.size + 1 + 1) 3 #[.int .i64 0, .int .i64 1, .int .i64 2, .int .i64 4, .int .i64 5, .int .i64 6]) ∧ Below w.heap.size w wr ∧ w.heap.size + 3 ≤ wr.heap.size) (fun i _ => 6 - (intOf i).toNat)
  case atStart => exact ⟨0, by omega, rfl, ⟨hG, hV, hL⟩, hbl, hsz⟩
  case round =>
    obtain ⟨j, hj, rfl, hkeep, hbl, hsz⟩ := hrel
    clear hG hV hL
    by_cases hlt : j < 6
    · have c0 : wr.cell? ⟨w.heap.size + 1 + 1, j, none⟩ = some (.int .i64 (kj j)) := by
        rcases (by omega : j = 0 ∨ j = 1 ∨ j = 2 ∨ j = 3 ∨ j = 4 ∨ j = 5) with rfl | rfl | rfl | rfl | rfl | rfl <;> exact hkeep.out.2.2.cell _ rfl
      have hk6 : 0 ≤ kj j ∧ kj j ≤ 6 := by unfold kj; split <;> omega
      have hk3 : kj j ≠ 3 := by unfold kj; split <;> omega
      have htg : tagL (kj j) = 65529 + j := by unfold tagL kj; split <;> split <;> omega
      have hlt0 : w.heap.size + 1 + 1 < wr.heap.size := by omega
      obtain ⟨K, hK⟩ : ∃ K, K = kj j := ⟨_, rfl⟩
      rw [← hK] at c0 hk6 hk3 htg
      have HK := Lib.hid hK; clear hK
      go_wp2_with fail
      refine (rtag_any K _ hk6 hk3).mono ?_
      rintro e w' ⟨rfl, rfl⟩
      rw [htg]
      by_cases he : x / 281474976710656 = 65529 + (j : Int)
      · obtain ⟨v1, v2, v3⟩ := vk_hit he
        rw [← HK.out] at v1 v2
        have HVS := Lib.hid (And.intro v1 (And.intro v2 v3)); clear v1 v2 v3
        have hB := hkeep.out.2.1.setRow (cs' := #[.int .i64 (K), .int .i64 (x % 281474976710656)])
        have s1 := hB.cell 1 (v := .int .i64 (x % 281474976710656)) rfl
        have f1 := hB.frozen 1
        have HB := Lib.hid hB; clear hB
        have hG' : Blk (w'.setRow (w.heap.size + 1) #[.int .i64 (K), .int .i64 (x % 281474976710656)]) w.heap.size 23 #[.int .i64 0, .int .i64 0] := hkeep.out.1.setRow_far (by omega)
        have hL' : Blk (w'.setRow (w.heap.size + 1) #[.int .i64 (K), .int .i64 (x % 281474976710656)]) (w.heap.size + 1 + 1) 3 #[.int .i64 0, .int .i64 1, .int .i64 2, .int .i64 4, .int .i64 5, .int .i64 6] := hkeep.out.2.2.setRow_far (by omega)
        have HGL := Lib.hid (And.intro hG' hL'); clear hG' hL'
        have hm : 0 ≤ x % 281474976710656 ∧ x % 281474976710656 < 281474976710656 := by omega
        have hbl2 := bel_setRow hbl (by omega : w.heap.size ≤ w.heap.size + 1) #[.int .i64 (K), .int .i64 (x % 281474976710656)]
        have hsz2 : w.heap.size + 3 ≤ (w'.setRow (w.heap.size + 1) #[.int .i64 (K), .int .i64 (x % 281474976710656)]).heap.size := by simpa using hsz
        by_cases h2 : K = 2
        · subst h2
          by_cases h31 : 2147483648 ≤ x % 281474976710656
          · go_wp2_with (refine wpList_st rfl 23 (.tmp 4) (.tmp 27) rfl (w.heap.size + 1) rfl rfl hkeep.out.2.1 (by kernel_rfl) rfl rfl ?_)
            go_roundw
            case rel =>
              refine ⟨j + 1, by omega, by go_num, ⟨HGL.out.1.far (by simp) _, ?_, HGL.out.2.far (by simp) _⟩, hbl2.setCell (by simp) _, by simp [World.setCell]; omega⟩
              have := HB.out.set_ 1 (.int .i64 (x % 281474976710656 - 4294967296))
              rw [HVS.out.1, HVS.out.2.2, show n48 x = x % 281474976710656 - 4294967296 by unfold n48; rw [if_pos ⟨HVS.out.2.1, h31⟩]]
              exact this
            case measure => simp [intOf]; omega
          · go_wp2_with (refine wpList_st rfl 23 (.tmp 4) (.tmp 27) rfl (w.heap.size + 1) rfl rfl hkeep.out.2.1 (by kernel_rfl) rfl rfl ?_)
            go_roundw
            case rel =>
              refine ⟨j + 1, by omega, by go_num, ⟨HGL.out.1, ?_, HGL.out.2⟩, hbl2, hsz2⟩
              rw [HVS.out.1, HVS.out.2.2, show n48 x = x % 281474976710656 by unfold n48; rw [if_neg (by omega)]]
              exact HB.out
            case measure => simp [intOf]; omega
        · have h2b : (K == 2) = false := by simp [h2]
          go_wp2_with (refine wpList_st rfl 23 (.tmp 4) (.tmp 27) rfl (w.heap.size + 1) rfl rfl hkeep.out.2.1 (by kernel_rfl) rfl rfl ?_)
          go_roundw
          case rel =>
            refine ⟨j + 1, by omega, by go_num, ⟨HGL.out.1, ?_, HGL.out.2⟩, hbl2, hsz2⟩
            rw [HVS.out.1, HVS.out.2.2, show n48 x = x % 281474976710656 by unfold n48; rw [if_neg (by rw [HVS.out.2.1]; exact fun h => h2 h.1)]]
            exact HB.out
          case measure => simp [intOf]; omega
      · obtain ⟨v1, v2⟩ := vk_same he
        have HVS := Lib.hid (And.intro v1 v2); clear v1 v2
        have heb : (x / 281474976710656 == 65529 + (j : Int)) = false := by simp [he]
        go_wp2_with fail
        go_roundw
        case rel => exact ⟨j + 1, by omega, by go_num, by rw [HVS.out.1, HVS.out.2]; exact hkeep, hbl, hsz⟩
        case measure => simp [intOf]; omega
    · obtain rfl : j = 6 := by omega
      have hI : I64 (vk x 6) ∧ I64 (vn x 6) := by
        unfold I64 vk vn kindL n48 sgn64
        constructor
        · split <;> (try split) <;> omega
        · split <;> (try split) <;> omega
      have HI := Lib.hid hI; clear hI
      have HU := Lib.hid (unb_ref x hx)
      go_wp2_with (refine wpList_ld rfl 23 (.tmp 4) rfl (w.heap.size + 1) rfl hkeep.out.2.1 Try.underlying23 rfl (by kernel_rfl) ?_)
      refine (rbox_any (vk x 6) (vn x 6) _ HI.out.1 HI.out.2).mono ?_
      rintro e w' ⟨rfl, hb⟩
      have HG := Lib.hid (hkeep.out.1.fresh hb)
      have HV := Lib.hid (hkeep.out.2.1.fresh hb)
      have hbl' := hbl.trans (hb.mono (by omega))
      have hU := HU.out
      obtain ⟨y, z, hyz⟩ : ∃ y z, boxL (vk x 6) (vn x 6) = (y, z) := ⟨_, _, rfl⟩
      rw [hyz] at hU ⊢
      clear hb hyz
      by_cases hz : z = 0
      · subst hz
        by_cases hy : y = x
        · rw [hy, if_pos rfl] at hU
          have HU2 := Lib.hid hU; clear hU
          have hy2 : (y != x) = false := by simp [hy]
          have HY := Lib.hid hy; clear hy
          go_wp2_with (first | (refine wpList_ld rfl 23 (.tmp 4) rfl (w.heap.size + 1) rfl HV.out Try.underlying23 rfl (by kernel_rfl) ?_) | (refine wpList_st rfl 23 (.tmp 2) (.tmp 53) rfl w.heap.size rfl rfl HG.out (by kernel_rfl) rfl rfl ?_))
          refine bodyPost_ret (results_cell_tmp rfl _ _ w.heap.size _ _ _ rfl HG.out.setRow Try.underlying23 rfl (by kernel_rfl)) rfl ?_
          exact ⟨bel_setRow hbl' (Nat.le_refl _) _, .inl ⟨_, _, HU2.out, rfl⟩⟩
        · rw [if_neg (by simp [hy])] at hU
          have HU2 := Lib.hid hU; clear hU
          have hy2 : (y != x) = true := by simp [hy]
          go_wp2_with (refine wpList_st rfl 23 (.tmp 2) (.tmp 52) rfl w.heap.size rfl rfl HG.out (by kernel_rfl) rfl rfl ?_)
          refine bodyPost_ret (results_cell_tmp rfl _ _ w.heap.size _ _ _ rfl HG.out.setRow Try.underlying23 rfl (by kernel_rfl)) rfl ?_
          exact ⟨bel_setRow hbl' (Nat.le_refl _) _, .inr ⟨HU2.out, rfl⟩⟩
      · rw [if_neg (by simp [hz])] at hU
        have HU2 := Lib.hid hU; clear hU
        have hz2 : (z != 0) = true := by simp [hz]
        go_wp2_with (refine wpList_st rfl 23 (.tmp 2) (.tmp 52) rfl w.heap.size rfl rfl HG.out (by kernel_rfl) rfl rfl ?_)
        refine bodyPost_ret (results_cell_tmp rfl _ _ w.heap.size _ _ _ rfl HG.out.setRow Try.underlying23 rfl (by kernel_rfl)) rfl ?_
        exact ⟨bel_setRow hbl' (Nat.le_refl _) _, .inr ⟨HU2.out, rfl⟩⟩

end Go.Proofs.Ytpkccpegdpodoaa
