/- RF: Ord19. -/
import Derived.Test.YtljdnadejmkaeaaRF44
import Derived.Deep.DrawnRows
/- The reference's bytes of code. -/
namespace Go.Proofs.Ytljdnadejmkaeaa
open Go.RowKit
attribute [local go_sem ↓] Go.wp_at_zero Go.wp_at_succ

set_option maxHeartbeats 6400000 in
set_option maxRecDepth 100000 in
theorem rcode_any (B oc ec tsc tmc bsc bmc : Nat) (OA EA TS TM BS BM : Option Addr) (c : RC) (w : World) (h : CdAt w B c OA EA TS TM BS BM tsc tmc bsc bmc) (hB : B ≤ w.heap.size) (hnl : Ord.tooLarge c = false) (hci : I64 c.fn ∧ I64 c.at_ ∧ I64 c.loop ∧ I64 c.slots) :
    Calls Try.prog 46 #[.agg #[.int .i64 c.fn, .int .i64 c.at_, .int .i64 c.loop, .int .i64 c.slots, .slice OA c.orders.length oc, .slice EA c.exits.length ec, .int .i64 c.turn.at_, .int .i64 c.turn.steps, .slice TS c.turn.sets.length tsc, .slice TM c.turn.makes.length tmc, .int .i64 c.back.at_, .int .i64 c.back.steps, .slice BS c.back.sets.length bsc, .slice BM c.back.makes.length bmc]] w fun e w' => ∃ (A : Option Addr) (d m : Nat), e = .returned (.slice A m d) ∧ (Ord.bys (Ord.numsB (Ord.codeNums c))).length = m ∧ Own w' w.heap.size 5 A d (Ord.bys (Ord.numsB (Ord.codeNums c))) ∧ Below w.heap.size w w' := by
  obtain ⟨i0, hii, hz0, hz1, hz2⟩ := info_parts infoU8
  obtain ⟨hol2, hel2⟩ := Ord.notLarge hnl
  have HL := Lib.hid (Ord.large_all hnl); clear hnl
  have hok5 : ∀ z ∈ [c.fn, c.at_, c.loop, c.slots, (c.orders.length : Int)], I64 z := by
    obtain ⟨j0, j1, j2, j3⟩ := hci
    intro z hz; simp at hz; rcases hz with rfl | rfl | rfl | rfl | rfl
    · exact j0
    · exact j1
    · exact j2
    · exact j3
    · unfold I64; omega
  have H := Lib.hid (And.intro h hok5); clear h hci hok5
  go_enter Try.func46, Try.ntmps46
  go_wp2_with fail
  refine (rnums_new (w.heap.size + 1) 5 _ [c.fn, c.at_, c.loop, c.slots, (c.orders.length : Int)] (w.alloc (.cells #[.int .i64 c.fn, .int .i64 c.at_, .int .i64 c.loop, .int .i64 c.slots, .slice OA c.orders.length oc, .slice EA c.exits.length ec, .int .i64 c.turn.at_, .int .i64 c.turn.steps, .slice TS c.turn.sets.length tsc, .slice TM c.turn.makes.length tmc, .int .i64 c.back.at_, .int .i64 c.back.steps, .slice BS c.back.sets.length bsc, .slice BM c.back.makes.length bmc] 104)) (by simp) rfl rfl H.out.2 (by omega)).mono ?_
  rintro e w1 ⟨A1, d1, m1, rfl, hm1, hm1b, ho1, hb1⟩
  have hs1 := hb1.size
  simp only [World.size_alloc] at hs1
  have hC1 := ((Blk.new w 104 #[.int .i64 c.fn, .int .i64 c.at_, .int .i64 c.loop, .int .i64 c.slots, .slice OA c.orders.length oc, .slice EA c.exits.length ec, .int .i64 c.turn.at_, .int .i64 c.turn.steps, .slice TS c.turn.sets.length tsc, .slice TM c.turn.makes.length tmc, .int .i64 c.back.at_, .int .i64 c.back.steps, .slice BS c.back.sets.length bsc, .slice BM c.back.makes.length bmc]).alloc (.cells #[.int .i64 c.fn, .int .i64 c.at_, .int .i64 c.loop, .int .i64 c.slots, .int .i64 (c.orders.length : Int)] 3)).fresh hb1
  have hbl1 : Below w.heap.size w w1 := (((Below.refl _ _).alloc (Nat.le_refl _) _).alloc (by simp) _).trans (hb1.mono (by simp; omega))
  have c4 := hC1.cell 4 (v := .slice OA c.orders.length oc) rfl
  have lt1 : w.heap.size < w1.heap.size := by omega
  have hm1c : m1 ≤ 50 := by simpa using hm1b
  have H1 := Lib.hid (And.intro (ho1.base_le (show w.heap.size + 1 ≤ _ by simp)) (And.intro hC1 hm1)); clear ho1 hC1 hm1 hb1 hm1b
  go_wp2_with fail
  clear c4
  go_loopg [3, 24] (c.orders.length) (fun gk ov iv wr => ∃ (k : Nat) (A2 : Option Addr) (c2 : Nat) (o1 : List U8), k ≤ c.orders.length ∧ gk = c.orders.length - k ∧ iv = .int .i64 k ∧ ov = .slice A2 o1.length c2 ∧ o1.length ≤ 50 + k * 80 ∧ Hid (o1 = Ord.bys (Ord.numsB ([c.fn, c.at_, c.loop, c.slots, (c.orders.length : Int)] ++ (c.orders.take k).flatMap Ord.orderNums)) ∧ Own wr (w.heap.size + 1) 5 A2 c2 o1 ∧ Blk wr w.heap.size 104 #[.int .i64 c.fn, .int .i64 c.at_, .int .i64 c.loop, .int .i64 c.slots, .slice OA c.orders.length oc, .slice EA c.exits.length ec, .int .i64 c.turn.at_, .int .i64 c.turn.steps, .slice TS c.turn.sets.length tsc, .slice TM c.turn.makes.length tmc, .int .i64 c.back.at_, .int .i64 c.back.steps, .slice BS c.back.sets.length bsc, .slice BM c.back.makes.length bmc]) ∧ Below w.heap.size w wr ∧ w.heap.size + 1 ≤ wr.heap.size)
  case atStart => exact ⟨0, A1, d1, _, Nat.zero_le _, rfl, rfl, by rw [H1.out.2.2], by rw [H1.out.2.2]; omega, ⟨by simp, H1.out.1, H1.out.2.1⟩, hbl1, by omega⟩
  case round =>
    obtain ⟨k, A2, c2, o1, hk, rfl, rfl, rfl, ho1, hkeep, hbl, hsz⟩ := hrel
    by_cases hlt : k < c.orders.length
    · obtain ⟨b, o, x, rfl, hbB, hx, q0, q1, q2, q3, q4, q5, q6, q7, j0, j1, j2, j3, j4, j5, j6, j7⟩ := (H.out.1.1.below (hbl.mono hB)).rO_ hlt
      have hfs := Ord.fm_take Ord.orderNums hx
      have hk0 : (0 : Int) ≤ (k : Int) := by omega
      have hk1 : (k : Int) < (c.orders.length : Int) := by omega
      have hok : ∀ z ∈ Ord.orderNums x, I64 z := by
        intro z hz; simp [Ord.orderNums] at hz; rcases hz with rfl | rfl | rfl | rfl | rfl | rfl | rfl | rfl <;> assumption
      have HX := Lib.hid (And.intro hfs (And.intro hok (And.intro hkeep.out.1 (And.intro ((hkeep.out.2.1.alloc (.cells #[.int .i64 x.op, .int .i64 x.a, .int .i64 x.b, .int .i64 x.c, .int .i64 x.n, .int .i64 x.exit, .int .i64 x.k.1, .int .i64 x.k.2] 146)).alloc (.cells #[.int .i64 x.op, .int .i64 x.a, .int .i64 x.b, .int .i64 x.c, .int .i64 x.n, .int .i64 x.exit, .int .i64 x.k.1, .int .i64 x.k.2] 3)) ((hkeep.out.2.2.alloc (.cells #[.int .i64 x.op, .int .i64 x.a, .int .i64 x.b, .int .i64 x.c, .int .i64 x.n, .int .i64 x.exit, .int .i64 x.k.1, .int .i64 x.k.2] 146)).alloc (.cells #[.int .i64 x.op, .int .i64 x.a, .int .i64 x.b, .int .i64 x.c, .int .i64 x.n, .int .i64 x.exit, .int .i64 x.k.1, .int .i64 x.k.2] 3)))))); clear hfs hok hkeep hx j0 j1 j2 j3 j4 j5 j6 j7
      go_wp2_with fail
      refine (rnums_new (wr.heap.size + 1) 8 _ (Ord.orderNums x) (wr.alloc (.cells #[.int .i64 x.op, .int .i64 x.a, .int .i64 x.b, .int .i64 x.c, .int .i64 x.n, .int .i64 x.exit, .int .i64 x.k.1, .int .i64 x.k.2] 146)) (by simp) rfl rfl HX.out.2.1 (by omega)).mono ?_
      rintro e w3 ⟨A3, d3, m3, rfl, hm3, hm3b, ho3, hb3⟩
      have hm3c : m3 ≤ 80 := hm3b
      have hs3 := hb3.size
      simp only [World.size_alloc] at hs3
      have hbl3 : Below w.heap.size w w3 := ((hbl.alloc (by omega) _).alloc (by simp; omega) _).trans (hb3.mono (by simp; omega))
      have H3 := Lib.hid (And.intro (HX.out.2.2.2.1.fresh hb3) (And.intro (HX.out.2.2.2.2.fresh hb3) (And.intro (ho3.at_ (bys_okk _)) hm3))); clear ho3 hb3 hm3 hm3b
      go_wp2_with (at_builtin; go_must (refine wpList_app (α := U8) (m := m3) (B := w3.heap.size) (r := Ord.bys (Ord.numsB (Ord.orderNums x))) rfl (.tmp 28) (.tmp 48) _ rfl (w.heap.size + 1) 5 i0 _ 1 Try.underlying105 hii hz0 hz1 hz2 rfl (by decide) u8_one (by rfl) rfl H3.out.1 (by rfl) H3.out.2.2.1 H3.out.2.2.2 (by omega) (by simp only [maxLen]; omega) (by omega) ?_))
      intro A4 c4 w4 hown4 hgr4 hat4
      have heq : o1 ++ Ord.bys (Ord.numsB (Ord.orderNums x)) = Ord.bys (Ord.numsB ([c.fn, c.at_, c.loop, c.slots, (c.orders.length : Int)] ++ (c.orders.take (k + 1)).flatMap Ord.orderNums)) := by
        rw [HX.out.2.2.1, HX.out.1, ← Ord.bys_nums, List.append_assoc]
      have hls : o1.length + m3 = (o1 ++ Ord.bys (Ord.numsB (Ord.orderNums x))).length := by rw [List.length_append, H3.out.2.2.2]
      have hbl4 := hbl3.grown hgr4 (by omega) (fun g hg => by have := (H3.out.1.lt g hg).1; omega)
      have hC4 := H3.out.2.1.grown hgr4 (own_ne_ty H3.out.1 H3.out.2.1 (by decide))
      have hs4 : w.heap.size + 1 ≤ w4.heap.size := hC4.lt
      have H4 := Lib.hid (And.intro heq (And.intro hown4 (And.intro hC4 hls))); clear heq hown4 hls hgr4 hat4 hC4
      go_wp2_with fail
      go_roundg (c.orders.length - (k + 1))
      case measure => omega
      case rel => exact ⟨k + 1, A4, c4, _, by omega, rfl, by go_num, by rw [H4.out.2.2.2], by rw [← H4.out.2.2.2]; omega, ⟨H4.out.1, H4.out.2.1, H4.out.2.2.1⟩, hbl4, hs4⟩
    · have hk2 := hkeep.out
      rw [List.take_of_length_le (by omega)] at hk2
      have c5 := hk2.2.2.cell 5 (v := .slice EA c.exits.length ec) rfl
      have H2 := Lib.hid (And.intro hk2.1 (And.intro (hk2.2.1.alloc (.cells #[.int .i64 (c.exits.length : Int)] 3)) (hk2.2.2.alloc (.cells #[.int .i64 (c.exits.length : Int)] 3)))); clear hk2 hkeep
      have ho1' : o1.length ≤ 130000 := by omega
      clear ho1
      go_wp2_with fail
      refine (rnums_new wr.heap.size 1 _ [(c.exits.length : Int)] wr rfl rfl rfl (by intro z hz; simp at hz; subst hz; unfold I64; omega) (by omega)).mono ?_
      rintro e w3 ⟨A3, d3, m3, rfl, hm3, hm3b, ho3, hb3⟩
      have hm3c : m3 ≤ 10 := hm3b
      have hs3 := hb3.size
      simp only [World.size_alloc] at hs3
      have hbl3 : Below w.heap.size w w3 := (hbl.alloc (by omega) _).trans (hb3.mono (by simp; omega))
      have H3 := Lib.hid (And.intro (H2.out.2.1.fresh hb3) (And.intro (H2.out.2.2.fresh hb3) (And.intro (ho3.at_ (bys_okk _)) hm3))); clear ho3 hb3 hm3 hm3b c5
      go_wp2_with (at_builtin; go_must (refine wpList_app (α := U8) (m := m3) (B := w3.heap.size) (r := Ord.bys (Ord.numsB [(c.exits.length : Int)])) rfl (.tmp 51) (.tmp 56) _ rfl (w.heap.size + 1) 5 i0 _ 1 Try.underlying105 hii hz0 hz1 hz2 rfl (by decide) u8_one (by rfl) rfl H3.out.1 (by rfl) H3.out.2.2.1 H3.out.2.2.2 (by omega) (by simp only [maxLen]; omega) (by omega) ?_))
      intro A4 c4 w4 hown4 hgr4 hat4
      have hls : o1.length + m3 = (o1 ++ Ord.bys (Ord.numsB [(c.exits.length : Int)])).length := by rw [List.length_append, H3.out.2.2.2]
      have hbl4 := hbl3.grown hgr4 (by omega) (fun g hg => by have := (H3.out.1.lt g hg).1; omega)
      have hC4 := H3.out.2.1.grown hgr4 (own_ne_ty H3.out.1 H3.out.2.1 (by decide))
      have hs4 : w.heap.size + 1 ≤ w4.heap.size := hC4.lt
      have c5' := hC4.cell 5 (v := .slice EA c.exits.length ec) rfl
      have ltw4 : w.heap.size < w4.heap.size := by omega
      obtain ⟨o4, ho4⟩ : ∃ o4, o1 ++ Ord.bys (Ord.numsB [(c.exits.length : Int)]) = o4 := ⟨_, rfl⟩
      rw [ho4] at hown4 hls
      have ho4l : o4.length ≤ 130010 := by omega
      have ho4e : o4 = Ord.bys (Ord.numsB (([c.fn, c.at_, c.loop, c.slots, (c.orders.length : Int)] ++ c.orders.flatMap Ord.orderNums) ++ [(c.exits.length : Int)])) := by rw [← ho4, H2.out.1, ← Ord.bys_nums]
      have H4 := Lib.hid (And.intro hown4 (And.intro hls (And.intro ho4e hC4))); clear hown4 hls hgr4 hat4 hC4 ho4 ho4e
      go_wp2_with fail
      clear c5'
      go_loopg [3, 61] (c.exits.length) (fun gj ov jv wj => ∃ (j : Nat) (A2 : Option Addr) (c2 : Nat) (o2 : List U8), j ≤ c.exits.length ∧ gj = c.exits.length - j ∧ jv = .int .i64 j ∧ ov = .slice A2 o2.length c2 ∧ o2.length ≤ 130010 + j * 700000 ∧ Hid (o2 = o4 ++ Ord.bys (Ord.numsB ((c.exits.take j).flatMap Ord.exitNums)) ∧ Own wj (w.heap.size + 1) 5 A2 c2 o2 ∧ Blk wj w.heap.size 104 #[.int .i64 c.fn, .int .i64 c.at_, .int .i64 c.loop, .int .i64 c.slots, .slice OA c.orders.length oc, .slice EA c.exits.length ec, .int .i64 c.turn.at_, .int .i64 c.turn.steps, .slice TS c.turn.sets.length tsc, .slice TM c.turn.makes.length tmc, .int .i64 c.back.at_, .int .i64 c.back.steps, .slice BS c.back.sets.length bsc, .slice BM c.back.makes.length bmc]) ∧ Below w.heap.size w wj ∧ w.heap.size + 1 ≤ wj.heap.size)
      case atStart => exact ⟨0, A4, c4, o4, Nat.zero_le _, rfl, rfl, by rw [H4.out.2.1], by omega, ⟨by simp [Ord.numsB, Ord.bys], H4.out.1, H4.out.2.2.2⟩, hbl4, hs4⟩
      case round =>
        obtain ⟨j, A2, c2, o2, hj, rfl, rfl, rfl, ho2, hkeep, hblj, hsj⟩ := hrel
        by_cases hjt : j < c.exits.length
        · obtain ⟨b, o, x, SA, sc, MA, mc, rfl, hbB, hx, q0, q1, q2, q3, as_, hsc, am_, hmc, j0, j1⟩ := (H.out.1.2.1.below (hblj.mono hB)).rE_ hjt
          have hlg := HL.out x (by simp [Ord.allExits, List.mem_of_getElem? hx])
          have hen := Ord.exitNums_ok as_ am_ ⟨j0, j1⟩ hlg
          have hfs := Ord.fm_take Ord.exitNums hx
          have hj0 : (0 : Int) ≤ (j : Int) := by omega
          have hj1 : (j : Int) < (c.exits.length : Int) := by omega
          obtain ⟨F, hF⟩ : ∃ F : Array Value, F = #[.int .i64 x.at_, .int .i64 x.steps, .slice SA x.sets.length sc, .slice MA x.makes.length mc] := ⟨_, rfl⟩
          have hFB := Blk.new wr 102 F
          have hOa := hkeep.out.2.1.alloc (.cells F 102)
          have hCa := hkeep.out.2.2.alloc (.cells F 102)
          have hat2 : At (wr.alloc (.cells F 102)) B SA x.sets ∧ At (wr.alloc (.cells F 102)) B MA x.makes := ⟨as_.alloc (by omega) _, am_.alloc (by omega) _⟩
          rw [hF] at hFB hOa hCa hat2
          have HX := Lib.hid (And.intro hfs (And.intro hen (And.intro hFB (And.intro hkeep.out.1 (And.intro hOa (And.intro hCa (And.intro hat2 (And.intro (And.intro j0 j1) hlg)))))))); clear hfs j0 j1 hFB hkeep hx hOa hCa hat2 as_ am_ hF F hen hlg hsc hmc
          go_wp2_with (refine wpList_ld rfl 102 (.tmp 7) rfl wr.heap.size rfl HX.out.2.2.1 Try.underlying102 rfl (by kernel_rfl) ?_)
          refine (rexit_any B sc mc SA MA x _ HX.out.2.2.2.2.2.2.1.1 HX.out.2.2.2.2.2.2.1.2 (by rw [World.size_alloc]; omega) HX.out.2.2.2.2.2.2.2.1 HX.out.2.2.2.2.2.2.2.2).mono ?_
          rintro e w5 ⟨A5, d5, m5, rfl, hm5, hm5b, ho5, hb5⟩
          have hm5c : m5 ≤ 700000 := by have := HX.out.2.1.2; omega
          have hs5 := hb5.size
          simp only [World.size_alloc] at hs5
          have hbl5 : Below w.heap.size w w5 := (hblj.alloc (by omega) _).trans (hb5.mono (by simp; omega))
          have H5 := Lib.hid (And.intro (HX.out.2.2.2.2.1.fresh hb5) (And.intro (HX.out.2.2.2.2.2.1.fresh hb5) (And.intro (ho5.at_ (bys_okk _)) hm5))); clear ho5 hb5 hm5 hm5b
          go_wp2_with (at_builtin; go_must (refine wpList_app (α := U8) (m := m5) (B := w5.heap.size) (r := Ord.bys (Ord.numsB (Ord.exitNums x))) rfl (.tmp 65) (.tmp 67) _ rfl (w.heap.size + 1) 5 i0 _ 1 Try.underlying105 hii hz0 hz1 hz2 rfl (by decide) u8_one (by rfl) rfl H5.out.1 (by rfl) H5.out.2.2.1 H5.out.2.2.2 (by omega) (by simp only [maxLen]; omega) (by omega) ?_))
          intro A6 c6 w6 hown6 hgr6 hat6
          have heq : o2 ++ Ord.bys (Ord.numsB (Ord.exitNums x)) = o4 ++ Ord.bys (Ord.numsB ((c.exits.take (j + 1)).flatMap Ord.exitNums)) := by
            rw [HX.out.2.2.2.1, HX.out.1, Ord.bys_nums, List.append_assoc]
          have hls : o2.length + m5 = (o2 ++ Ord.bys (Ord.numsB (Ord.exitNums x))).length := by rw [List.length_append, H5.out.2.2.2]
          have hbl6 := hbl5.grown hgr6 (by omega) (fun g hg => by have := (H5.out.1.lt g hg).1; omega)
          have hC6 := H5.out.2.1.grown hgr6 (own_ne_ty H5.out.1 H5.out.2.1 (by decide))
          have hs6 : w.heap.size + 1 ≤ w6.heap.size := hC6.lt
          have H6 := Lib.hid (And.intro heq (And.intro hown6 (And.intro hC6 hls))); clear heq hown6 hgr6 hat6 hC6 hls
          go_wp2_with fail
          go_roundg (c.exits.length - (j + 1))
          case measure => omega
          case rel => exact ⟨j + 1, A6, c6, _, by omega, rfl, by go_num, by rw [H6.out.2.2.2], by rw [← H6.out.2.2.2]; omega, ⟨H6.out.1, H6.out.2.1, H6.out.2.2.1⟩, hbl6, hs6⟩
        · obtain ⟨k1, k2, k3⟩ := hkeep.out
          rw [List.take_of_length_le (by omega)] at k1
          have hcd := H.out.1.below (hblj.mono hB)
          have hT := ExA.at_ hcd.2.2.1
          have hBk := ExA.at_ hcd.2.2.2
          have hlT := HL.out c.turn (by simp [Ord.allExits])
          have hlB := HL.out c.back (by simp [Ord.allExits])
          have heT := Ord.exitNums_ok (x := c.turn) hT.1 hT.2.1 ⟨hT.2.2.1, hT.2.2.2.1⟩ hlT
          have heB := Ord.exitNums_ok (x := c.back) hBk.1 hBk.2.1 ⟨hBk.2.2.1, hBk.2.2.2.1⟩ hlB
          have ho2b : o2.length ≤ 200000000 := by omega
          have HF := Lib.hid (And.intro k1 (And.intro k2 (And.intro k3 (And.intro (And.intro hT (And.intro hlT heT)) (And.intro hBk (And.intro hlB heB)))))); clear k1 k2 k3 hkeep hcd hT hBk hlT hlB heT heB
          have hBw : B ≤ wr.heap.size := by omega
          go_upto_region 13 with fail
          refine wp_region_held_drew (S := (fun w' => w'.cell? ⟨w.heap.size, 5, none⟩ = some (.slice EA c.exits.length ec) ∧ w'.cell? ⟨w.heap.size, 6, none⟩ = some (.int .i64 c.turn.at_) ∧ w'.cell? ⟨w.heap.size, 7, none⟩ = some (.int .i64 c.turn.steps) ∧ w'.cell? ⟨w.heap.size, 8, none⟩ = some (.slice TS c.turn.sets.length tsc) ∧ w'.cell? ⟨w.heap.size, 9, none⟩ = some (.slice TM c.turn.makes.length tmc) ∧ w'.cell? ⟨w.heap.size, 10, none⟩ = some (.int .i64 c.back.at_) ∧ w'.cell? ⟨w.heap.size, 11, none⟩ = some (.int .i64 c.back.steps) ∧ w'.cell? ⟨w.heap.size, 12, none⟩ = some (.slice BS c.back.sets.length bsc) ∧ w'.cell? ⟨w.heap.size, 13, none⟩ = some (.slice BM c.back.makes.length bmc))) (by kernel_rfl) ?_ (fun hHeld0 => ?_)
          · first | trivial | ((try dsimp only); (exact cellsC HF.out.2.2.1))
          refine held_take (v := ?_) 0 rfl (by kernel_rfl) (by kernel_rfl) (by kernel_rfl) (fun _ _ _ h => h) (by rfl) ?_ (by assumption) ?_
          rotate_left
          · (intro w hSw; (try dsimp only at hSw); go_simp; try with_reducible rfl)
          try simp only [Act.put, List.setIfInBounds_toArray, List.set_cons_zero, List.set_cons_succ]
          refine held_take (v := ?_) 1 rfl (by kernel_rfl) (by kernel_rfl) (by kernel_rfl) (fun _ _ _ h => h) (by rfl) ?_ (by assumption) ?_
          rotate_left
          · (intro w hSw; (try dsimp only at hSw); go_simp; try with_reducible rfl)
          try simp only [Act.put, List.setIfInBounds_toArray, List.set_cons_zero, List.set_cons_succ]
          refine held_take (v := ?_) 2 rfl (by kernel_rfl) (by kernel_rfl) (by kernel_rfl) (fun _ _ _ h => h) (by rfl) ?_ (by assumption) ?_
          rotate_left
          · (intro w hSw; (try dsimp only at hSw); go_simp; try with_reducible rfl)
          try simp only [Act.put, List.setIfInBounds_toArray, List.set_cons_zero, List.set_cons_succ]
          refine held_take (v := ?_) 5 rfl (by kernel_rfl) (by kernel_rfl) (by kernel_rfl) (fun _ _ _ h => h) (by rfl) ?_ (by assumption) ?_
          rotate_left
          · (intro w hSw; (try dsimp only at hSw); go_simp; try with_reducible rfl)
          try simp only [Act.put, List.setIfInBounds_toArray, List.set_cons_zero, List.set_cons_succ]
          refine held_take (v := ?_) 6 rfl (by kernel_rfl) (by kernel_rfl) (by kernel_rfl) (fun _ _ _ h => h) (by rfl) ?_ (by assumption) ?_
          rotate_left
          · (intro w hSw; (try dsimp only at hSw); go_simp; try with_reducible rfl)
          try simp only [Act.put, List.setIfInBounds_toArray, List.set_cons_zero, List.set_cons_succ]
          refine held_call 3 (by kernel_rfl) rfl (fun K hK => ?_)
          go_simp
          go_at_call 99; refine (rexit_any B tsc tmc TS TM c.turn _ HF.out.2.2.2.1.1.1.drew HF.out.2.2.2.1.1.2.1.drew hBw ⟨HF.out.2.2.2.1.1.2.2.1, HF.out.2.2.2.1.1.2.2.2.1⟩ HF.out.2.2.2.1.2.1).mono ?_; rintro e w5 ⟨A5, d5, m5, rfl, hm5, hm5b, ho5d, hb5d⟩; have hb5 : Below wr.heap.size wr w5 := undrew hb5d; have hm5c : m5 ≤ 700000 := (by have := HF.out.2.2.2.1.2.2.2; omega); have hs5 := hb5.size; have hk5 := HF.out.2.2.1.fresh hb5; have hO5 := HF.out.2.1.fresh hb5; have hat5 := ho5d.at_ (bys_okk _); clear hb5d ho5d hm5b
          try (go_wp2_with fail)
          refine hK.out _ _ ?_ (fun hHeld1 => ?_)
          · first | trivial | ((try dsimp only); (exact cellsC hk5))
          clear hK K hHeld0
          try simp only [Act.put, List.setIfInBounds_toArray, List.set_cons_zero, List.set_cons_succ]
          refine held_call 4 (by kernel_rfl) rfl (fun K hK => ?_)
          refine step_app (α := U8) (n := o2.length) (m := m5) (nm := o2.length + m5) (B := w5.heap.size) (r := Ord.bys (Ord.numsB (Ord.exitNums c.turn))) (by rfl) (.tmp 70) (.tmp 73) _ (by rfl) (w.heap.size + 1) 5 i0 _ 1 Try.underlying105 hii hz0 hz1 hz2 rfl (by decide) u8_one (by rfl) rfl hO5 (by rfl) hat5 hm5 rfl (by omega) (by simp only [maxLen]; omega) (by omega) ?_; intro A6 c6 w6 ho6 hgr6 hat6; have hk6 := hk5.grown hgr6 (own_ne_ty hO5 hk5 (by decide)); have hb6 : Below (w.heap.size + 1) wr w6 := (hb5.mono hsj).grown hgr6 (by omega) (fun g hg => (hO5.lt g hg).1); have hs6 := hgr6.size; have hl6 : (o2 ++ Ord.bys (Ord.numsB (Ord.exitNums c.turn))).length = o2.length + m5 := (by rw [List.length_append, hm5])
          refine hK.out _ _ ?_ (fun hHeld2 => ?_)
          · first | trivial | ((try dsimp only); (exact cellsC hk6))
          clear hK K hHeld1
          try simp only [Act.put, List.setIfInBounds_toArray, List.set_cons_zero, List.set_cons_succ]
          refine held_call 7 (by kernel_rfl) rfl (fun K hK => ?_)
          go_simp
          go_at_call 99; refine (rexit_any B bsc bmc BS BM c.back _ (HF.out.2.2.2.2.1.1.below (hb6.mono (by omega))) (HF.out.2.2.2.2.1.2.1.below (hb6.mono (by omega))) (by omega) ⟨HF.out.2.2.2.2.1.2.2.1, HF.out.2.2.2.2.1.2.2.2.1⟩ HF.out.2.2.2.2.2.1).mono ?_; rintro e w7 ⟨A7, d7, m7, rfl, hm7, hm7b, ho7, hb7⟩; have hm7c : m7 ≤ 700000 := (by have := HF.out.2.2.2.2.2.2.2; omega); have hs7 := hb7.size; have hk7 := hk6.fresh hb7; have hO7 := ho6.fresh hb7; have hat7 := ho7.at_ (bys_okk _); clear ho7 hm7b
          try (go_wp2_with fail)
          refine hK.out _ _ ?_ (fun hHeld3 => ?_)
          · first | trivial | ((try dsimp only); (exact cellsC hk7))
          clear hK K hHeld2
          try simp only [Act.put, List.setIfInBounds_toArray, List.set_cons_zero, List.set_cons_succ]
          refine held_call 8 (by kernel_rfl) rfl (fun K hK => ?_)
          refine step_app (α := U8) (n := o2.length + m5) (m := m7) (nm := o2.length + m5 + m7) (B := w7.heap.size) (r := Ord.bys (Ord.numsB (Ord.exitNums c.back))) (by rfl) (.tmp 74) (.tmp 77) _ (by rfl) (w.heap.size + 1) 5 i0 _ 1 Try.underlying105 hii hz0 hz1 hz2 rfl (by decide) u8_one (by rfl) hl6 hO7 (by rfl) hat7 hm7 rfl (by omega) (by simp only [maxLen]; omega) (by omega) ?_; intro A8 c8 w8 ho8 hgr8 hat8; have hk8 := hk7.grown hgr8 (own_ne_ty hO7 hk7 (by decide)); have hb8 : Below (w.heap.size + 1) wr w8 := (hb6.trans (hb7.mono (by omega))).grown hgr8 (by omega) (fun g hg => (hO7.lt g hg).1)
          refine hK.out _ _ ?_ (fun hHeld4 => ?_)
          · first | trivial | ((try dsimp only); (exact cellsC hk8))
          clear hK K hHeld3
          try simp only [Act.put, List.setIfInBounds_toArray, List.set_cons_zero, List.set_cons_succ]
          refine held_take (v := ?_) 9 rfl (by kernel_rfl) (by kernel_rfl) (by kernel_rfl) (fun _ _ _ h => h) (by rfl) ?_ (by assumption) ?_
          rotate_left
          · (intro w hSw; (try dsimp only at hSw); go_simp; try with_reducible rfl)
          try simp only [Act.put, List.setIfInBounds_toArray, List.set_cons_zero, List.set_cons_succ]
          refine wpAnyH_done (by kernel_rfl) ?_ _
          have heq : o2 ++ Ord.bys (Ord.numsB (Ord.exitNums c.turn)) ++ Ord.bys (Ord.numsB (Ord.exitNums c.back)) = Ord.bys (Ord.numsB (Ord.codeNums c)) := by
            rw [HF.out.1, H4.out.2.2.1]
            simp only [← Ord.bys_nums]
            unfold Ord.codeNums
            simp
          have hls : (Ord.bys (Ord.numsB (Ord.codeNums c))).length = o2.length + m5 + m7 := by rw [← heq, List.length_append, hl6, hm7]
          have H8 := Lib.hid (And.intro heq (And.intro ho8 hls)); clear heq ho8 hls hl6 hO5 hO7 hat5 hat7 hgr6 hgr8 hk5 hk6 hk7 hk8 hm5 hm7 ho6 hat6 hat8
          go_wp2_with fail
          go_ret
          exact ⟨A8, c8, o2.length + m5 + m7, rfl, H8.out.2.2, by rw [← H8.out.1]; exact H8.out.2.1.base_le (by omega), hblj.trans (hb8.mono (by omega))⟩

end Go.Proofs.Ytljdnadejmkaeaa
