/- RF: Ord14. -/
import Derived.Test.YtljdnadejmkaeaaRF39
import Derived.Deep.OwnRows
/- order.Check. -/
namespace Go.Proofs.Ytljdnadejmkaeaa
open Go.RowKit
attribute [local go_sem ↓] Go.wp_at_zero Go.wp_at_succ

theorem containsFuncRE_n (A : Option Addr) (c B g n : Nat) (lb : Array Value) (p : RE → Bool) (l : List RE) (w : World) (hn : l.length = n) (h : At w B A l) (hB : B ≤ w.heap.size) (hl : n ≤ 9223372036854775807)
    (eg : ∀ args w, (callFunc g args).run Try.prog w = .ok (.enter g args) w) (hp : PredX Try.prog g lb p l B w) :
    Calls Try.prog 91 #[.slice A n c, .func (.func g) #[] lb] w fun e w' => e = .returned (.bool (l.any p)) ∧ Below w.heap.size w w' := by
  subst hn; exact containsFuncRE_any A c B g lb p l w h hB hl eg hp

theorem order_n (base G B ec : Nat) (sl : Int) (EA : Option Addr) (st : Ord.St) (x : RO) (exits : List RE) (v0 v1 v2 v4 v6 v7 v8 v9 v10 v11 v12 v13 : Value) (w : World) (h : Ws w base G st) (hbG : base ≤ G) (hE : At w B EA exits) (hB : B ≤ base) (hsl : (st.slots.length : Int) = sl)
    (hN : ∀ y ∈ exits, (Ord.places y).length * 16 ≤ 140737488355328) (hxi : I64 x.a ∧ I64 x.b ∧ I64 x.c) (hki : I64 x.k.1 ∧ I64 x.k.2) :
    Calls Try.prog 95 #[.pointer (some ⟨G, 0, none⟩), .agg #[.int .i64 x.op, .int .i64 x.a, .int .i64 x.b, .int .i64 x.c, .int .i64 x.n, .int .i64 x.exit, .int .i64 x.k.1, .int .i64 x.k.2], .agg #[v0, v1, v2, .int .i64 sl, v4, .slice EA exits.length ec, v6, v7, v8, v9, v10, v11, v12, v13]] w (OrdPost st x sl exits base G w) := by
  subst hsl; exact order_any base G B _ ec EA st x exits v0 v1 v2 v4 v6 v7 v8 v9 v10 v11 v12 v13 w h hbG hE hB rfl hN hxi hki

def ChkPost (c : RC) (w : World) (e : Ending) (w' : World) : Prop := e = .returned (.int .i64 (Ord.err c)) ∧ Below w.heap.size w w'

set_option maxHeartbeats 6400000 in
set_option maxRecDepth 100000 in
theorem ocheck_any (B oc ec tsc tmc bsc bmc : Nat) (OA EA TS TM BS BM : Option Addr) (c : RC) (w : World) (h : CdAt w B c OA EA TS TM BS BM tsc tmc bsc bmc) (hB : B ≤ w.heap.size) (hol : c.orders.length ≤ 9223372036854775807) (hel : (c.exits.length + 2) * 64 ≤ 140737488355328)
    (hoi : ∀ x ∈ c.orders, (I64 x.a ∧ I64 x.b ∧ I64 x.c) ∧ I64 x.k.1 ∧ I64 x.k.2) :
    Calls Try.prog 44 #[.agg #[.int .i64 c.fn, .int .i64 c.at_, .int .i64 c.loop, .int .i64 c.slots, .slice OA c.orders.length oc, .slice EA c.exits.length ec, .int .i64 c.turn.at_, .int .i64 c.turn.steps, .slice TS c.turn.sets.length tsc, .slice TM c.turn.makes.length tmc, .int .i64 c.back.at_, .int .i64 c.back.steps, .slice BS c.back.sets.length bsc, .slice BM c.back.makes.length bmc]] w (ChkPost c w) := by
  obtain ⟨P, hP⟩ : ∃ P, ChkPost c w = P := ⟨_, rfl⟩
  rw [hP]
  obtain ⟨i0, hi, hz0, hz1, hz2⟩ := info_parts infoRExit
  obtain ⟨rs, hrl, hrat, hrr⟩ := h.2.1.raws (n := 4) rfl re_one
  have HP := Lib.hid (And.intro hP.symm hoi); clear hP hoi
  have H := Lib.hid (And.intro h (And.intro hrl (And.intro hrat hrr))); clear h hrl hrat hrr
  obtain ⟨b1, hb1⟩ : ∃ b, Ord.tooLarge c = b := ⟨_, rfl⟩
  obtain ⟨b2, hb2⟩ : ∃ b, Ord.badNums c = b := ⟨_, rfl⟩
  have HB := Lib.hid (And.intro hb1 hb2)
  unfold Ord.tooLarge at hb1; unfold Ord.badNums at hb2
  have HB1 := Lib.hid hb1; have HB2 := Lib.hid hb2; clear hb1 hb2
  go_enter Try.func44, Try.ntmps44
  go_upto_region 2 with (at_builtin; go_must (refine wpList_app (α := Raw 4) (n := 2) (m := c.exits.length) (B := B) (l := [(⟨c.turn, TS, tsc, TM, tmc⟩ : ExA).raw, (⟨c.back, BS, bsc, BM, bmc⟩ : ExA).raw]) (r := rs) rfl (.tmp 13) (.tmp 15) _ rfl (w.heap.size + 1) 102 i0 _ 64 Try.underlying98 hi hz0 hz1 hz2 rfl (by decide) raw_one (by rfl) rfl (own_litA _ _ _ 2 _ _ _ (by simp) rfl (by simp) rfl (by simp [maxLen])) (by rfl) (((H.out.2.2.1.alloc hB _).alloc (by simp; try omega) _)) H.out.2.1 (by omega) (by simp only [maxLen]; omega) (by simp; try omega) ?_); intro XA xc w1 ho1 hgr1 hat1)
  have hC1 := ((Blk.new w 104 #[.int .i64 c.fn, .int .i64 c.at_, .int .i64 c.loop, .int .i64 c.slots, .slice OA c.orders.length oc, .slice EA c.exits.length ec, .int .i64 c.turn.at_, .int .i64 c.turn.steps, .slice TS c.turn.sets.length tsc, .slice TM c.turn.makes.length tmc, .int .i64 c.back.at_, .int .i64 c.back.steps, .slice BS c.back.sets.length bsc, .slice BM c.back.makes.length bmc]).alloc (.cells #[.int .i64 c.turn.at_, .int .i64 c.turn.steps, .slice TS c.turn.sets.length tsc, .slice TM c.turn.makes.length tmc, .int .i64 c.back.at_, .int .i64 c.back.steps, .slice BS c.back.sets.length bsc, .slice BM c.back.makes.length bmc] 102)).grown hgr1 (by simp [rowOf])
  have hbl1 : Below w.heap.size w w1 := (((Below.refl _ _).alloc (Nat.le_refl _) _).alloc (by simp) _).grown hgr1 (by simp; omega) (fun g hg => by simp [rowOf] at hg; omega)
  have hs1 : w.heap.size + 2 ≤ w1.heap.size := by have := hgr1.size; simpa using this
  have hX1 := allExits_at H.out.1 H.out.2.1 H.out.2.2.2 (hbl1.mono hB) (show B ≤ w1.heap.size by omega) (ho1.at_ (fun _ _ => trivial))
  have hCd1 := H.out.1.below (hbl1.mono hB)
  have hxl : (Ord.allExits c).length = 2 + c.exits.length := by simp [Ord.allExits]; omega
  obtain ⟨bl, hbl⟩ : ∃ b, (Ord.allExits c).any Ord.large = b := ⟨_, rfl⟩
  rw [hbl] at HB1
  have hms := makes_short hX1
  have H1 := Lib.hid (And.intro hC1 (And.intro hX1 (And.intro hCd1 (And.intro hxl (And.intro hms hbl))))); clear hC1 hX1 hCd1 hxl ho1 hgr1 hat1 hms hbl H
  have c3 := H1.out.1.cell 3 (v := .int .i64 c.slots) rfl
  have c4 := H1.out.1.cell 4 (v := .slice OA c.orders.length oc) rfl
  have c5 := H1.out.1.cell 5 (v := .slice EA c.exits.length ec) rfl
  have lt1 : w.heap.size < w1.heap.size := by omega
  go_cut [17] (fun ov W2 => ov = .bool b1 ∧ Below w1.heap.size w1 W2)
  case first =>
    cases d1 : (decide (1500 < (c.orders.length : Int))) with
    | false =>
      cases d2 : (decide (200 < (c.exits.length : Int))) with
      | false =>
        cases d3 : (decide (300 < c.slots)) with
        | false =>
          cases bl with
          | false =>
            go_wp2_with (go_at_call 91; refine (containsFuncRE_n XA xc w1.heap.size 92 (2 + c.exits.length) #[] Ord.large (Ord.allExits c) w1 H1.out.2.2.2.1 H1.out.2.1 (Nat.le_refl _) (by omega) egLargeX (predXLarge _ _ _ (Nat.le_refl _) H1.out.2.2.2.2.1)).mono ?_; rintro e w2 ⟨he, hb2⟩; rw [H1.out.2.2.2.2.2] at he; subst he)
            go_meet
            exact ⟨by rw [← HB1.out, d1, d2, d3] <;> rfl, by first | exact hb2 | exact Below.refl _ _⟩
          | true =>
            go_wp2_with (go_at_call 91; refine (containsFuncRE_n XA xc w1.heap.size 92 (2 + c.exits.length) #[] Ord.large (Ord.allExits c) w1 H1.out.2.2.2.1 H1.out.2.1 (Nat.le_refl _) (by omega) egLargeX (predXLarge _ _ _ (Nat.le_refl _) H1.out.2.2.2.2.1)).mono ?_; rintro e w2 ⟨he, hb2⟩; rw [H1.out.2.2.2.2.2] at he; subst he)
            go_meet
            exact ⟨by rw [← HB1.out, d1, d2, d3] <;> rfl, by first | exact hb2 | exact Below.refl _ _⟩
        | true =>
          go_wp2_with (go_at_call 91; refine (containsFuncRE_n XA xc w1.heap.size 92 (2 + c.exits.length) #[] Ord.large (Ord.allExits c) w1 H1.out.2.2.2.1 H1.out.2.1 (Nat.le_refl _) (by omega) egLargeX (predXLarge _ _ _ (Nat.le_refl _) H1.out.2.2.2.2.1)).mono ?_; rintro e w2 ⟨he, hb2⟩; rw [H1.out.2.2.2.2.2] at he; subst he)
          go_meet
          exact ⟨by rw [← HB1.out, d1, d2, d3] <;> rfl, by first | exact hb2 | exact Below.refl _ _⟩
      | true =>
        go_wp2_with (go_at_call 91; refine (containsFuncRE_n XA xc w1.heap.size 92 (2 + c.exits.length) #[] Ord.large (Ord.allExits c) w1 H1.out.2.2.2.1 H1.out.2.1 (Nat.le_refl _) (by omega) egLargeX (predXLarge _ _ _ (Nat.le_refl _) H1.out.2.2.2.2.1)).mono ?_; rintro e w2 ⟨he, hb2⟩; rw [H1.out.2.2.2.2.2] at he; subst he)
        go_meet
        exact ⟨by rw [← HB1.out, d1, d2] <;> rfl, by first | exact hb2 | exact Below.refl _ _⟩
    | true =>
      go_wp2_with (go_at_call 91; refine (containsFuncRE_n XA xc w1.heap.size 92 (2 + c.exits.length) #[] Ord.large (Ord.allExits c) w1 H1.out.2.2.2.1 H1.out.2.1 (Nat.le_refl _) (by omega) egLargeX (predXLarge _ _ _ (Nat.le_refl _) H1.out.2.2.2.2.1)).mono ?_; rintro e w2 ⟨he, hb2⟩; rw [H1.out.2.2.2.2.2] at he; subst he)
      go_meet
      exact ⟨by rw [← HB1.out, d1] <;> rfl, by first | exact hb2 | exact Below.refl _ _⟩
  case rest =>
    obtain ⟨w2, rfl⟩ : ∃ v : World, v = wc := ⟨_, rfl⟩
    obtain ⟨rfl, hbc⟩ := hcut
    have hsc := hbc.size
    have hbl2 : Below w.heap.size w w2 := hbl1.trans (hbc.mono (by omega))
    have H2 := Lib.hid (And.intro (H1.out.1.fresh hbc) (And.intro ((H1.out.2.1.below hbc).more hsc) (And.intro (H1.out.2.2.1.below (hbc.mono (by omega))) H1.out.2.2.2.1))); clear H1 c3 c4 c5
    have lt2 : w.heap.size < w2.heap.size := by omega
    cases b1 with
    | true =>
      go_wp2_with fail
      rw [HP.out.1]
      exact ⟨by unfold Ord.err; rw [HB.out.1]; rfl, hbl2⟩
    | false =>
      have d0 := H2.out.1.cell 0 (v := .int .i64 c.fn) rfl
      have d1 := H2.out.1.cell 1 (v := .int .i64 c.at_) rfl
      have d2 := H2.out.1.cell 2 (v := .int .i64 c.loop) rfl
      have d3 := H2.out.1.cell 3 (v := .int .i64 c.slots) rfl
      have d4 := H2.out.1.cell 4 (v := .slice OA c.orders.length oc) rfl
      go_upto_region 4 with fail
      go_cut [37] (fun ov W2 => ov = .bool b2 ∧ W2 = w2)
      case first =>
        cases a1 : (decide (c.slots < 0)) with
        | false =>
          cases a2 : (decide (c.fn < 0)) with
          | false =>
            cases a3 : (decide (c.at_ < 0)) with
            | false =>
              cases a4 : (decide (c.loop < 0)) with
              | false =>
                cases a5 : (decide ((c.orders.length : Int) < c.loop)) with
                | false =>
                  go_wp2_with fail
                  go_meet
                  exact ⟨by rw [← HB2.out, a1, a2, a3, a4, a5] <;> rfl, rfl⟩
                | true =>
                  go_wp2_with fail
                  go_meet
                  exact ⟨by rw [← HB2.out, a1, a2, a3, a4, a5] <;> rfl, rfl⟩
              | true =>
                go_wp2_with fail
                go_meet
                exact ⟨by rw [← HB2.out, a1, a2, a3, a4] <;> rfl, rfl⟩
            | true =>
              go_wp2_with fail
              go_meet
              exact ⟨by rw [← HB2.out, a1, a2, a3] <;> rfl, rfl⟩
          | true =>
            go_wp2_with fail
            go_meet
            exact ⟨by rw [← HB2.out, a1, a2] <;> rfl, rfl⟩
        | true =>
          go_wp2_with fail
          go_meet
          exact ⟨by rw [← HB2.out, a1] <;> rfl, rfl⟩
      case rest =>
        obtain ⟨rfl, hwc⟩ := hcut
        have hwc2 := hwc.symm
        subst hwc2
        clear hwc
        cases b2 with
        | true =>
          go_wp2_with fail
          rw [HP.out.1]
          exact ⟨by unfold Ord.err; rw [HB.out.1, HB.out.2]; rfl, hbl2⟩
        | false =>
          have hB1 := HB1.out
          simp only [Bool.or_eq_false_iff, decide_eq_false_iff_not] at hB1
          obtain ⟨⟨⟨l1, l2⟩, l3⟩, -⟩ := hB1
          have hB2 := HB2.out
          simp only [Bool.or_eq_false_iff, decide_eq_false_iff_not] at hB2
          obtain ⟨⟨⟨⟨m1, -⟩, -⟩, m4⟩, m5⟩ := hB2
          have hol2 : c.orders.length ≤ 1500 := by omega
          have hel2 : c.exits.length ≤ 200 := by omega
          obtain ⟨sn, hsn⟩ : ∃ sn : Nat, c.slots = (sn : Int) := ⟨c.slots.toNat, by omega⟩
          have hsn3 : sn ≤ 300 := by omega
          obtain ⟨lp, hlp⟩ : ∃ lp : Nat, c.loop = (lp : Int) := ⟨c.loop.toNat, by omega⟩
          have hlpn : lp ≤ c.orders.length := by omega
          clear l1 l2 l3 m1 m4 m5 HB1 HB2 d0 d1
          rw [hsn] at d3
          rw [hlp] at d2
          have hmk := Go.run_make_row' (P := Try.prog) 156 4 (.bool false) 1 Try.underlying156 infoBoolA rfl .i64 .i64 sn (by omega) (by omega)
          have d6 := H2.out.1.cell 6 (v := .int .i64 c.turn.at_) rfl
          have d7 := H2.out.1.cell 7 (v := .int .i64 c.turn.steps) rfl
          have d8 := H2.out.1.cell 8 (v := .slice TS c.turn.sets.length tsc) rfl
          have d9 := H2.out.1.cell 9 (v := .slice TM c.turn.makes.length tmc) rfl
          have hlg := Ord.large_all HB.out.1
          have HL := Lib.hid (And.intro hlg (And.intro hsn hlp)); clear hlg hsn hlp
          go_upto_region 7 with fail
          clear hmk
          have hst : Ord.start c = ⟨List.replicate 8 false, List.replicate sn false⟩ := by unfold Ord.start; rw [HL.out.2.1, Int.toNat_natCast]
          obtain ⟨t0, ht0⟩ : ∃ b, Ord.turn0 c = b := ⟨_, rfl⟩
          obtain ⟨bt, hbt⟩ : ∃ b, Ord.bare c.turn = b := ⟨_, rfl⟩
          have HT0 := Lib.hid (And.intro ht0 hbt)
          unfold Ord.turn0 at ht0
          rw [hbt, HL.out.2.2] at ht0
          have HT1 := Lib.hid (And.intro hst ht0); clear hst ht0 hbt
          refine wp_world (fun V => Ws V w2.heap.size (w2.heap.size + 1) (Ord.stK c 0) ∧ Below w2.heap.size w2 V ∧ w2.heap.size + 2 ≤ V.heap.size) ⟨?_, ((Below.refl _ _).alloc (Nat.le_refl _) _).alloc (by simp) _, by simp⟩ ?_
          · rw [show Ord.stK c 0 = Ord.start c from rfl, HT1.out.1]
            refine ⟨some ⟨w2.heap.size, 0, none⟩, sn, ?_, (own_madeA w2 w2.heap.size _ sn (Nat.le_refl _) (by simp only [maxLen]; omega)).alloc _, rfl⟩
            rw [List.length_replicate]
            exact Blk.at_ _ _ _ (by simp)
          rintro V ⟨hWs, hbV, hsV⟩
          have HV := Lib.hid (And.intro hWs (H2.out.1.fresh hbV)); clear hWs
          have e2 := HV.out.2.cell 2 (v := .int .i64 (lp : Int)) (by rw [← HL.out.2.2]; rfl)
          have e4 := HV.out.2.cell 4 (v := .slice OA c.orders.length oc) rfl
          have e6 := HV.out.2.cell 6 (v := .int .i64 c.turn.at_) rfl
          have e7 := HV.out.2.cell 7 (v := .int .i64 c.turn.steps) rfl
          have e8 := HV.out.2.cell 8 (v := .slice TS c.turn.sets.length tsc) rfl
          have e9 := HV.out.2.cell 9 (v := .slice TM c.turn.makes.length tmc) rfl
          clear d2 d3 d4 d6 d7 d8 d9
          go_cut [5] (fun ov W2 => ov = .bool t0 ∧ Below V.heap.size V W2)
          case first =>
            cases a1 : ((lp : Int) == 0) with
            | false =>
              go_wp2_with (go_at_call 93; refine (bare_any tsc tmc TS TM c.turn V).mono ?_; rintro e w5 ⟨he, hb5⟩; rw [HT0.out.2] at he; subst he)
              go_meet
              exact ⟨by rw [← HT1.out.2, a1] <;> rfl, by first | exact hb5 | exact Below.refl _ _⟩
            | true =>
              cases bt with
              | false =>
                go_wp2_with (go_at_call 93; refine (bare_any tsc tmc TS TM c.turn V).mono ?_; rintro e w5 ⟨he, hb5⟩; rw [HT0.out.2] at he; subst he)
                go_meet
                exact ⟨by rw [← HT1.out.2, a1] <;> rfl, by first | exact hb5 | exact Below.refl _ _⟩
              | true =>
                go_wp2_with (go_at_call 93; refine (bare_any tsc tmc TS TM c.turn V).mono ?_; rintro e w5 ⟨he, hb5⟩; rw [HT0.out.2] at he; subst he)
                go_meet
                exact ⟨by rw [← HT1.out.2, a1] <;> rfl, by first | exact hb5 | exact Below.refl _ _⟩
          case rest =>
            obtain ⟨w4, rfl⟩ : ∃ v : World, v = wc := ⟨_, rfl⟩
            obtain ⟨rfl, hb4⟩ := hcut
            have hs4 := hb4.size
            have f4 := (HV.out.2.fresh hb4).cell 4 (v := .slice OA c.orders.length oc) rfl
            have HW4 := Lib.hid (HV.out.1.fresh hb4)
            have hbw4 : Below w2.heap.size w2 w4 := hbV.trans (hb4.mono (by omega))
            have lt4 : w2.heap.size + 2 ≤ w4.heap.size := by omega
            clear e2 e4 e6 e7 e8 e9 HV hbV hsV hb4
            have ltw4 : w.heap.size < w4.heap.size := by omega
            go_wp2_with fail
            clear f4
            go_loopg [5, 80] (c.orders.length) (fun gk tv iv wr => ∃ (k : Nat) (tb : Bool), k ≤ c.orders.length ∧ gk = c.orders.length - k ∧ iv = .int .i64 k ∧ tv = .bool tb ∧ Hid (Ord.turnK c k = tb ∧ Ord.errK c k = 0 ∧ Ws wr w2.heap.size (w2.heap.size + 1) (Ord.stK c k)) ∧ Below w2.heap.size w2 wr ∧ w2.heap.size + 2 ≤ wr.heap.size)
            case atStart => exact ⟨0, t0, Nat.zero_le _, rfl, rfl, rfl, ⟨by rw [Ord.turnK_zero]; exact HT0.out.1, rfl, HW4.out⟩, hbw4, lt4⟩
            case round =>
              obtain ⟨k, tb, hk, rfl, rfl, rfl, hkeep, hbr, hsr⟩ := hrel
              have hbwr : Below w.heap.size w wr := hbl2.trans (hbr.mono (by omega))
              have hCr := Lib.hid (H2.out.1.fresh hbr)
              have hCdr := Lib.hid (H2.out.2.2.1.below (hbr.mono (by omega)))
              by_cases hlt : k < c.orders.length
              · obtain ⟨b, o, x, rfl, hb, hx, q0, q1, q2, q3, q4, q5, q6, q7, j0, j1, j2, j3, j4, j5, j6, j7⟩ := hCdr.out.1.rO_ hlt
                have hxi := HP.out.2 x (List.mem_of_getElem? hx)
                have hk0 : (0 : Int) ≤ (k : Int) := by omega
                have hk1 : (k : Int) < (c.orders.length : Int) := by omega
                have HX := Lib.hid (And.intro hx hxi); clear hx hxi j0 j1 j2 j3 j4 j5 j6 j7
                go_upto_region 11 with fail
                refine wp_world (fun Z => Ws Z w2.heap.size (w2.heap.size + 1) (Ord.stK c k) ∧ Blk Z wr.heap.size 146 #[.int .i64 x.op, .int .i64 x.a, .int .i64 x.b, .int .i64 x.c, .int .i64 x.n, .int .i64 x.exit, .int .i64 x.k.1, .int .i64 x.k.2] ∧ Below wr.heap.size wr Z ∧ wr.heap.size + 1 ≤ Z.heap.size) ⟨hkeep.out.2.2.alloc _, Blk.new _ _ _, (Below.refl _ _).alloc (Nat.le_refl _) _, by simp⟩ ?_
                rintro Z ⟨hWs, hXb, hbZ, hsZ⟩
                have hcz := hCr.out.fresh hbZ
                have s2 := hcz.cell 2 (v := .int .i64 (lp : Int)) (by rw [← HL.out.2.2]; rfl)
                have s6 := hcz.cell 6 (v := .int .i64 c.turn.at_) rfl
                have s7 := hcz.cell 7 (v := .int .i64 c.turn.steps) rfl
                have s8 := hcz.cell 8 (v := .slice TS c.turn.sets.length tsc) rfl
                have s9 := hcz.cell 9 (v := .slice TM c.turn.makes.length tmc) rfl
                have HZ := Lib.hid (And.intro hWs (And.intro hXb (And.intro hcz (hCdr.out.below (hbZ.mono (by omega)))))); clear hWs hXb hcz
                have hbwZ : Below w2.heap.size w2 Z := hbr.trans (hbZ.mono (by omega))
                have ltZ : w.heap.size < Z.heap.size := by omega
                obtain ⟨hit, hhit⟩ : ∃ b, (decide (0 < (lp : Int)) && ((k : Int) == (lp : Int))) = b := ⟨_, rfl⟩
                have HH := Lib.hid hhit; clear hhit
                obtain ⟨tn, htn⟩ : ∃ b, Ord.turnK c (k + 1) = b := ⟨_, rfl⟩
                have HTN := Lib.hid htn; clear htn
                go_cut [93] (fun ov W2 => ov = .bool hit ∧ W2 = Z)
                case first =>
                  by_cases p1 : 0 < lp
                  · have p1' : decide ((0 : Int) < (lp : Int)) = true := by simpa using p1
                    have HP1 := Lib.hid p1'; clear p1'
                    cases a2 : ((k : Int) == (lp : Int)) with
                    | true =>
                      go_wp2_with fail
                      go_meet
                      exact ⟨by rw [← HH.out, HP1.out, a2]; rfl, rfl⟩
                    | false =>
                      go_wp2_with fail
                      go_meet
                      exact ⟨by rw [← HH.out, HP1.out, a2]; rfl, rfl⟩
                  · have p1' : decide ((0 : Int) < (lp : Int)) = false := by simpa using p1
                    have HP1 := Lib.hid p1'; clear p1'
                    go_wp2_with fail
                    go_meet
                    exact ⟨by rw [← HH.out, HP1.out]; rfl, rfl⟩
                case rest =>
                  obtain ⟨rfl, hwc⟩ := hcut
                  have hwc2 := hwc.symm
                  subst hwc2
                  clear hwc
                  go_upto_if 93 with fail
                  go_cut [5] (fun ov W2 => ov = .bool tn ∧ Below Z.heap.size Z W2)
                  case first =>
                    cases hit with
                    | false =>
                      have hno : tn = tb := by
                        rw [← HTN.out, Ord.turnK_not, hkeep.out.1]
                        rintro ⟨h1, h2⟩
                        have := HH.out
                        rw [HL.out.2.2] at h1 h2
                        rw [decide_eq_true h1, show ((k : Int) == (lp : Int)) = true by simpa using h2] at this
                        cases this
                      have HNO := Lib.hid hno; clear hno
                      go_wp2_with fail
                      go_meet
                      exact ⟨by rw [HNO.out], Below.refl _ _⟩
                    | true =>
                      have hh := HH.out
                      simp only [Bool.and_eq_true, decide_eq_true_eq, beq_iff_eq] at hh
                      have hyes : tn = Ord.all_ (Ord.stK c k) c.turn := by rw [← HTN.out]; exact Ord.turnK_at (by rw [HL.out.2.2]; exact hh.1) (by rw [HL.out.2.2]; exact hh.2)
                      have hpl := (Ord.large_no (HL.out.1 c.turn (by simp [Ord.allExits]))).1
                      have hrd := ExA.at_ HZ.out.2.2.2.2.2.1
                      have HNO := Lib.hid (And.intro hyes (And.intro hpl hrd)); clear hyes hpl hrd hh
                      go_wp2_with (go_at_call 94; refine (all_any w2.heap.size (w2.heap.size + 1) B tsc tmc _ TS TM (Ord.stK c k) c.turn Z HZ.out.1 HNO.out.2.2.1 HNO.out.2.2.2.1 (by omega) rfl HNO.out.2.1).mono ?_; rintro e w5 ⟨he, hb5⟩; rw [← HNO.out.1] at he; subst he)
                      go_meet
                      exact ⟨rfl, hb5⟩
                  case rest =>
                    obtain ⟨w5, rfl⟩ : ∃ v : World, v = wc := ⟨_, rfl⟩
                    obtain ⟨rfl, hb5⟩ := hcut
                    have hs5 := hb5.size
                    have H5 := Lib.hid (And.intro (HZ.out.1.fresh hb5) (And.intro (HZ.out.2.1.fresh hb5) (And.intro (HZ.out.2.2.1.fresh hb5) (HZ.out.2.2.2.below (hb5.mono (by omega)))))); clear HZ s2 s6 s7 s8 s9
                    have hbw5 : Below w2.heap.size w2 w5 := hbwZ.trans (hb5.mono (by omega))
                    have hpls : ∀ y ∈ c.exits, (Ord.places y).length * 16 ≤ 140737488355328 := fun y hy => (Ord.large_no (HL.out.1 y (by simp [Ord.allExits, hy]))).1
                    have HPL := Lib.hid hpls; clear hpls
                    go_wp2_with (first | (refine wpList_ld rfl 146 (.tmp 7) rfl wr.heap.size rfl H5.out.2.1 Try.underlying146 rfl (by kernel_rfl) ?_) | (refine wpList_ld rfl 104 (.tmp 1) rfl w.heap.size rfl H5.out.2.2.1 Try.underlying104 rfl (by kernel_rfl) ?_))
                    refine (order_n w2.heap.size (w2.heap.size + 1) B ec c.slots EA (Ord.stK c k) x c.exits _ _ _ _ _ _ _ _ _ _ _ _ w5 H5.out.1 (by omega) H5.out.2.2.2.2.1 (by omega) (by rw [Ord.stK_slots, HL.out.2.1]; simp) HPL.out HX.out.2.1 HX.out.2.2).mono ?_
                    rintro e w6 ⟨he, hw6, hb6⟩
                    have hes := Ord.errK_succ HX.out.1 hkeep.out.2.1
                    obtain ⟨er, her⟩ : ∃ er, Ord.orderErr (Ord.stK c k) x c.slots c.exits = er := ⟨_, rfl⟩
                    rw [her] at he hw6 hes
                    subst he
                    have hs6 := hb6.size
                    have hbw6 : Below w2.heap.size w2 w6 := hbw5.trans hb6
                    have H6 := Lib.hid (And.intro hw6 hes); clear hw6 hes her
                    by_cases h0 : er = 0
                    · subst h0
                      have hsk := Ord.stK_succ HX.out.1
                      have HSK := Lib.hid hsk; clear hsk
                      go_wp2_with fail
                      go_roundg (c.orders.length - (k + 1))
                      case measure => omega
                      case rel => exact ⟨k + 1, tn, by omega, rfl, by go_num, rfl, ⟨HTN.out, H6.out.2, by rw [HSK.out]; exact H6.out.1 (by trivial)⟩, hbw6, by omega⟩
                    · have hne : (er != 0) = true := by simp [h0]
                      have hfin : Ord.err c = er := by rw [Ord.err_of_order HB.out.1 HB.out.2 (k := k + 1) (by rw [H6.out.2]; exact h0) (by omega), H6.out.2]
                      have HE := Lib.hid (And.intro hfin h0); clear hfin h0
                      go_wp2_with fail
                      rw [HP.out.1]
                      exact ⟨by rw [HE.out.1]; rfl, hbl2.trans (hbw6.mono (by omega))⟩
              · have hkn : k = c.orders.length := by omega
                have hk1 := hkeep.out
                rw [hkn] at hk1
                have s2 := hCr.out.cell 2 (v := .int .i64 (lp : Int)) (by rw [← HL.out.2.2]; rfl)
                have s4 := hCr.out.cell 4 (v := .slice OA c.orders.length oc) rfl
                have s6 := hCr.out.cell 6 (v := .int .i64 c.turn.at_) rfl
                have s7 := hCr.out.cell 7 (v := .int .i64 c.turn.steps) rfl
                have s8 := hCr.out.cell 8 (v := .slice TS c.turn.sets.length tsc) rfl
                have s9 := hCr.out.cell 9 (v := .slice TM c.turn.makes.length tmc) rfl
                have HK := Lib.hid hk1; clear hk1 hkeep
                have ltr : w.heap.size < wr.heap.size := by omega
                obtain ⟨hit, hhit⟩ : ∃ b, (decide (0 < (lp : Int)) && ((lp : Int) == (c.orders.length : Int))) = b := ⟨_, rfl⟩
                have HH := Lib.hid hhit; clear hhit
                obtain ⟨tn, htn⟩ : ∃ b, Ord.turnEnd c = b := ⟨_, rfl⟩
                have HTN := Lib.hid htn; clear htn
                go_upto_region 17 with fail
                go_cut [116] (fun ov W2 => ov = .bool hit ∧ W2 = wr)
                case first =>
                  clear hkn
                  by_cases p1 : 0 < lp
                  · have p1' : decide ((0 : Int) < (lp : Int)) = true := by simpa using p1
                    have HP1 := Lib.hid p1'; clear p1'
                    cases a2 : ((lp : Int) == (c.orders.length : Int)) with
                    | true =>
                      go_wp2_with fail
                      go_meet
                      exact ⟨by rw [← HH.out, HP1.out, a2]; rfl, rfl⟩
                    | false =>
                      go_wp2_with fail
                      go_meet
                      exact ⟨by rw [← HH.out, HP1.out, a2]; rfl, rfl⟩
                  · have p1' : decide ((0 : Int) < (lp : Int)) = false := by simpa using p1
                    have HP1 := Lib.hid p1'; clear p1'
                    go_wp2_with fail
                    go_meet
                    exact ⟨by rw [← HH.out, HP1.out]; rfl, rfl⟩
                case rest =>
                  obtain ⟨rfl, hwc⟩ := hcut
                  have hwc2 := hwc.symm
                  subst hwc2
                  clear hwc hkn
                  go_upto_if 116 with fail
                  go_cut [5] (fun ov W2 => ov = .bool tn ∧ Below wr.heap.size wr W2)
                  case first =>
                    cases hit with
                    | false =>
                      have hno : tn = tb := by
                        rw [← HTN.out]
                        unfold Ord.turnEnd
                        rw [if_neg, HK.out.1]
                        rintro ⟨h1, h2⟩
                        have := HH.out
                        rw [HL.out.2.2] at h1 h2
                        rw [decide_eq_true h1, show ((lp : Int) == (c.orders.length : Int)) = true by simpa using h2] at this
                        cases this
                      have HNO := Lib.hid hno; clear hno
                      go_wp2_with fail
                      go_meet
                      exact ⟨by rw [HNO.out], Below.refl _ _⟩
                    | true =>
                      have hh := HH.out
                      simp only [Bool.and_eq_true, decide_eq_true_eq, beq_iff_eq] at hh
                      have hyes : tn = Ord.all_ (Ord.stK c c.orders.length) c.turn := by
                        rw [← HTN.out]; unfold Ord.turnEnd; rw [if_pos ⟨by rw [HL.out.2.2]; exact hh.1, by rw [HL.out.2.2]; exact hh.2⟩]
                      have hpl := (Ord.large_no (HL.out.1 c.turn (by simp [Ord.allExits]))).1
                      have hrd := ExA.at_ hCdr.out.2.2.1
                      have HNO := Lib.hid (And.intro hyes (And.intro hpl hrd)); clear hyes hpl hrd hh
                      go_wp2_with (go_at_call 94; refine (all_any w2.heap.size (w2.heap.size + 1) B tsc tmc _ TS TM (Ord.stK c c.orders.length) c.turn wr HK.out.2.2 HNO.out.2.2.1 HNO.out.2.2.2.1 (by omega) rfl HNO.out.2.1).mono ?_; rintro e w5 ⟨he, hb5⟩; rw [← HNO.out.1] at he; subst he)
                      go_meet
                      exact ⟨rfl, hb5⟩
                  case rest =>
                    obtain ⟨w5, rfl⟩ : ∃ v : World, v = wc := ⟨_, rfl⟩
                    obtain ⟨rfl, hb5⟩ := hcut
                    have hs5 := hb5.size
                    have hbw5 : Below w2.heap.size w2 w5 := hbr.trans (hb5.mono (by omega))
                    have hX5 := (H2.out.2.1.below hbw5).more (show w2.heap.size ≤ w5.heap.size by omega)
                    have hrdb := ExA.at_ (ExA.below hCdr.out.2.2.2 (hb5.mono (by omega)))
                    have hplb := (Ord.large_no (HL.out.1 c.back (by simp [Ord.allExits]))).1
                    obtain ⟨ba, hba⟩ : ∃ b, Ord.all_ (Ord.stK c c.orders.length) c.back = b := ⟨_, rfl⟩
                    obtain ⟨fx, hfx⟩ : ∃ b, ((Ord.allExits c).any fun x => !Ord.formed c.slots x) = b := ⟨_, rfl⟩
                    have hplx : ∀ y ∈ Ord.allExits c, (Ord.places y).length * 16 ≤ 140737488355328 := fun y hy => (Ord.large_no (HL.out.1 y hy)).1
                    have hfin : Ord.err c = if !tn then 3 else if !ba then 3 else if fx then 3 else 0 := by
                      unfold Ord.err
                      rw [HB.out.1, HB.out.2, HK.out.2.1, HTN.out, hba, hfx]; rfl
                    have hC5 := H2.out.1.fresh hbw5
                    have s10 := hC5.cell 10 (v := .int .i64 c.back.at_) rfl
                    have s11 := hC5.cell 11 (v := .int .i64 c.back.steps) rfl
                    have s12 := hC5.cell 12 (v := .slice BS c.back.sets.length bsc) rfl
                    have s13 := hC5.cell 13 (v := .slice BM c.back.makes.length bmc) rfl
                    have lt5 : w.heap.size < w5.heap.size := by omega
                    have H5 := Lib.hid (And.intro (HK.out.2.2.fresh hb5) (And.intro hX5 (And.intro hrdb (And.intro hplb (And.intro hba (And.intro hfx (And.intro hplx (And.intro hfin hC5)))))))); clear hX5 hrdb hplb hba hfx hplx hfin hC5 s2 s4 s6 s7 s8 s9 HK HTN HH
                    obtain ⟨bf, hbf⟩ : ∃ b, ((!tn || !ba) || fx) = b := ⟨_, rfl⟩
                    have HBF := Lib.hid hbf; clear hbf
                    have hbl5 : Below w.heap.size w w5 := hbl2.trans (hbw5.mono (by omega))
                    go_upto_region 19 with fail
                    go_cut [134] (fun ov W2 => ov = .bool bf ∧ Below w5.heap.size w5 W2)
                    case first =>
                      cases tn with
                      | false =>
                        go_wp2_with (first | (go_at_call 94; refine (all_any w2.heap.size (w2.heap.size + 1) B bsc bmc _ BS BM (Ord.stK c c.orders.length) c.back w5 H5.out.1 H5.out.2.2.1.1 H5.out.2.2.1.2.1 (by omega) rfl H5.out.2.2.2.1).mono ?_; rintro e w6 ⟨he6, hb6⟩; rw [H5.out.2.2.2.2.1] at he6; subst he6; have hs6 := hb6.size) | (go_at_call 91; refine (containsFuncRE_n XA xc w6.heap.size 96 (2 + c.exits.length) #[.pointer (some ⟨w.heap.size, 0, none⟩)] (fun x => !Ord.formed c.slots x) (Ord.allExits c) w6 H2.out.2.2.2 ((H5.out.2.1.below hb6).more hs6) (Nat.le_refl _) (by omega) egCheckX (predXFormed w.heap.size w6.heap.size c.slots _ _ _ _ _ _ _ _ _ _ _ _ _ _ w6 (H5.out.2.2.2.2.2.2.2.2.fresh hb6) (Nat.le_refl _) H5.out.2.2.2.2.2.2.1)).mono ?_; rintro e w7 ⟨he7, hb7⟩; rw [H5.out.2.2.2.2.2.1] at he7; subst he7))
                        go_meet
                        exact ⟨by rw [← HBF.out] <;> rfl, by first | exact hb6.trans (hb7.mono hs6) | exact hb6 | exact Below.refl _ _⟩
                      | true =>
                        cases ba with
                        | false =>
                          go_wp2_with (first | (go_at_call 94; refine (all_any w2.heap.size (w2.heap.size + 1) B bsc bmc _ BS BM (Ord.stK c c.orders.length) c.back w5 H5.out.1 H5.out.2.2.1.1 H5.out.2.2.1.2.1 (by omega) rfl H5.out.2.2.2.1).mono ?_; rintro e w6 ⟨he6, hb6⟩; rw [H5.out.2.2.2.2.1] at he6; subst he6; have hs6 := hb6.size) | (go_at_call 91; refine (containsFuncRE_n XA xc w6.heap.size 96 (2 + c.exits.length) #[.pointer (some ⟨w.heap.size, 0, none⟩)] (fun x => !Ord.formed c.slots x) (Ord.allExits c) w6 H2.out.2.2.2 ((H5.out.2.1.below hb6).more hs6) (Nat.le_refl _) (by omega) egCheckX (predXFormed w.heap.size w6.heap.size c.slots _ _ _ _ _ _ _ _ _ _ _ _ _ _ w6 (H5.out.2.2.2.2.2.2.2.2.fresh hb6) (Nat.le_refl _) H5.out.2.2.2.2.2.2.1)).mono ?_; rintro e w7 ⟨he7, hb7⟩; rw [H5.out.2.2.2.2.2.1] at he7; subst he7))
                          go_meet
                          exact ⟨by rw [← HBF.out] <;> rfl, by first | exact hb6.trans (hb7.mono hs6) | exact hb6 | exact Below.refl _ _⟩
                        | true =>
                          cases fx with
                          | false =>
                            go_wp2_with (first | (go_at_call 94; refine (all_any w2.heap.size (w2.heap.size + 1) B bsc bmc _ BS BM (Ord.stK c c.orders.length) c.back w5 H5.out.1 H5.out.2.2.1.1 H5.out.2.2.1.2.1 (by omega) rfl H5.out.2.2.2.1).mono ?_; rintro e w6 ⟨he6, hb6⟩; rw [H5.out.2.2.2.2.1] at he6; subst he6; have hs6 := hb6.size) | (go_at_call 91; refine (containsFuncRE_n XA xc w6.heap.size 96 (2 + c.exits.length) #[.pointer (some ⟨w.heap.size, 0, none⟩)] (fun x => !Ord.formed c.slots x) (Ord.allExits c) w6 H2.out.2.2.2 ((H5.out.2.1.below hb6).more hs6) (Nat.le_refl _) (by omega) egCheckX (predXFormed w.heap.size w6.heap.size c.slots _ _ _ _ _ _ _ _ _ _ _ _ _ _ w6 (H5.out.2.2.2.2.2.2.2.2.fresh hb6) (Nat.le_refl _) H5.out.2.2.2.2.2.2.1)).mono ?_; rintro e w7 ⟨he7, hb7⟩; rw [H5.out.2.2.2.2.2.1] at he7; subst he7))
                            go_meet
                            exact ⟨by rw [← HBF.out] <;> rfl, by first | exact hb6.trans (hb7.mono hs6) | exact hb6 | exact Below.refl _ _⟩
                          | true =>
                            go_wp2_with (first | (go_at_call 94; refine (all_any w2.heap.size (w2.heap.size + 1) B bsc bmc _ BS BM (Ord.stK c c.orders.length) c.back w5 H5.out.1 H5.out.2.2.1.1 H5.out.2.2.1.2.1 (by omega) rfl H5.out.2.2.2.1).mono ?_; rintro e w6 ⟨he6, hb6⟩; rw [H5.out.2.2.2.2.1] at he6; subst he6; have hs6 := hb6.size) | (go_at_call 91; refine (containsFuncRE_n XA xc w6.heap.size 96 (2 + c.exits.length) #[.pointer (some ⟨w.heap.size, 0, none⟩)] (fun x => !Ord.formed c.slots x) (Ord.allExits c) w6 H2.out.2.2.2 ((H5.out.2.1.below hb6).more hs6) (Nat.le_refl _) (by omega) egCheckX (predXFormed w.heap.size w6.heap.size c.slots _ _ _ _ _ _ _ _ _ _ _ _ _ _ w6 (H5.out.2.2.2.2.2.2.2.2.fresh hb6) (Nat.le_refl _) H5.out.2.2.2.2.2.2.1)).mono ?_; rintro e w7 ⟨he7, hb7⟩; rw [H5.out.2.2.2.2.2.1] at he7; subst he7))
                            go_meet
                            exact ⟨by rw [← HBF.out] <;> rfl, by first | exact hb6.trans (hb7.mono hs6) | exact hb6 | exact Below.refl _ _⟩
                    case rest =>
                      obtain ⟨rfl, hb8⟩ := hcut
                      have hE : Ord.err c = if bf then 3 else 0 := by
                        rw [H5.out.2.2.2.2.2.2.2.1, ← HBF.out]
                        cases tn <;> cases ba <;> cases fx <;> rfl
                      have HE := Lib.hid hE; clear hE
                      cases bf with
                      | true =>
                        go_wp2_with fail
                        rw [HP.out.1]
                        exact ⟨by rw [HE.out]; rfl, hbl5.trans (hb8.mono (by omega))⟩
                      | false =>
                        go_wp2_with fail
                        rw [HP.out.1]
                        exact ⟨by rw [HE.out]; rfl, hbl5.trans (hb8.mono (by omega))⟩

end Go.Proofs.Ytljdnadejmkaeaa
