/- The reference: a value's span. -/
import Derived.Test.YtljdnadejmkaeaaLive20
namespace Go.Proofs.Ytljdnadejmkaeaa
open Go.RowKit

theorem results_cell1 {P : Program} {fn : Func} {p : Tmp} {ty : TypeId} (h : fn.results = #[.cell p ty]) (tmps : Array Value) (w : World) (g : Nat) (t : TypeId) (cs : Array Value) (d : TypeDesc)
    (hp : tmps.getD p undef = .pointer (some ⟨g, 0, none⟩)) (hg : Blk w g t cs)
    (hu : P.underlying ty = some d) (hd : (match d with | .struct _ | .array _ _ => true | _ => false) = true) (hi : (P.info? ty).map (·.size) = some cs.size) :
    (results fn tmps).run P w = .ok (.agg cs) w := by
  have hp' : tmps[p]?.getD undef = .pointer (some ⟨g, 0, none⟩) := by simpa using hp
  simp [results, h, hp', asAddr, run_loadVar_row w g t ty cs (0, 0) d hg hu hd hi]

namespace Liv
theorem lastR_true {p : Nat → Bool} {k : Nat} (h : p k = true) : lastR p (k + 1) = k := by show (if p k = true then (k : Int) else _) = _; rw [if_pos h]
theorem lastR_false {p : Nat → Bool} {k : Nat} (h : p k = false) : lastR p (k + 1) = lastR p k := by show (if p k = true then (k : Int) else lastR p k) = _; rw [h]; rfl
theorem spanR_brk {ins : List TI} {exits : List Ex} {turn back : Ex} {loop v : Int} {k : Nat} (hk : k ≤ ins.length) (h : brk ins exits turn back loop v k = true) : spanR ins exits turn back loop v = (v, (ins.length : Int)) := by
  have hl : lastOf ins exits turn back loop v = ins.length := by
    unfold lastOf; rw [if_pos (List.any_eq_true.2 ⟨k, List.mem_range.2 (by omega), h⟩)]
  unfold spanR; rw [hl, if_neg (by omega)]
theorem spanR_end {ins : List TI} {exits : List Ex} {turn back : Ex} {loop v r : Int} (h : ∀ a, a < ins.length + 1 → brk ins exits turn back loop v a = false) (hr : r = lastR (asked ins exits turn back loop v) (ins.length + 1)) :
    spanR ins exits turn back loop v = if r < 0 then (-1, -1) else (v, r) := by
  have hl : lastOf ins exits turn back loop v = r := by
    unfold lastOf; rw [if_neg, hr]
    intro h2
    obtain ⟨a, ha, hq⟩ := List.any_eq_true.1 h2
    rw [h a (List.mem_range.1 ha)] at hq; cases hq
  unfold spanR; rw [hl]
end Liv

set_option maxHeartbeats 3200000 in
set_option maxRecDepth 100000 in
theorem rspan_any (B ic ec tsc tmc bsc bmc : Nat) (IA EA TS TM BS BM : Option Addr) (fn at_ loop : Int) (ins : List TI) (exits : List Ex) (turn back : Ex) (w : World) (h : TrAt w B ins exits turn back IA EA TS tsc TM tmc BS bsc BM bmc) (hB : B ≤ w.heap.size) (hil : ins.length ≤ 100000) (hel : exits.length ≤ 100000) (hf : ∀ y ∈ exits, (Liv.vals y).length * 8 ≤ 140737488355328) (hft : (Liv.vals turn).length * 8 ≤ 140737488355328) (hfb : (Liv.vals back).length * 8 ≤ 140737488355328) (v : Int) (hee : ∀ (k : Nat) (x : TI), ins[k]? = some x → x.exit < exits.length) :
    Calls Try.prog 32 #[.agg #[.int .i64 fn, .int .i64 at_, .int .i64 loop, .slice IA ins.length ic, .slice EA exits.length ec, .int .i64 turn.at_, .int .i64 turn.steps, .slice TS turn.sets.length tsc, .slice TM turn.makes.length tmc, .int .i64 back.at_, .int .i64 back.steps, .slice BS back.sets.length bsc, .slice BM back.makes.length bmc], .int .i64 v] w fun e w' => e = .returned (.agg #[.int .i64 (Liv.spanR ins exits turn back loop v).1, .int .i64 (Liv.spanR ins exits turn back loop v).2]) ∧ Below w.heap.size w w' := by
  obtain ⟨S, hS⟩ : ∃ S, Liv.spanR ins exits turn back loop v = S := ⟨_, rfl⟩
  rw [hS]
  have H := Lib.hid (And.intro h (And.intro hf (And.intro hee hS))); clear h hf hee hS
  go_enter Try.func32, Try.ntmps32
  go_wp2_with fail
  refine wp_world (fun W => Blk W w.heap.size 72 #[.int .i64 fn, .int .i64 at_, .int .i64 loop, .slice IA ins.length ic, .slice EA exits.length ec, .int .i64 turn.at_, .int .i64 turn.steps, .slice TS turn.sets.length tsc, .slice TM turn.makes.length tmc, .int .i64 back.at_, .int .i64 back.steps, .slice BS back.sets.length bsc, .slice BM back.makes.length bmc] ∧ Blk W (w.heap.size + 1) 78 #[.int .i64 0, .int .i64 0] ∧ Below w.heap.size w W ∧ w.heap.size + 2 ≤ W.heap.size) ⟨(Blk.new _ _ _).alloc _, Blk.at_ _ _ _ (by simp), ((Below.refl _ _).alloc (Nat.le_refl _) _).alloc (by simp) _, by simp⟩ ?_
  rintro W ⟨hX, hY, hb0, hs0⟩
  have HB0 := Lib.hid (And.intro hX hY); clear hX hY
  go_loopg [6, 7, 8, 9] (ins.length + 1) (fun gk lv av sv xv wr => ∃ (k : Nat) (r : Int), k ≤ ins.length + 1 ∧ gk = ins.length + 1 - k ∧ lv = .int .i64 r ∧ av = .int .i64 k ∧ Hid (r = Liv.lastR (Liv.asked ins exits turn back loop v) k ∧ ∀ a, a < k → Liv.brk ins exits turn back loop v a = false) ∧ Below (w.heap.size + 2) W wr ∧ w.heap.size + 2 ≤ wr.heap.size)
  case atStart => exact ⟨0, -1, Nat.zero_le _, rfl, rfl, rfl, ⟨rfl, fun a h => by omega⟩, Below.refl _ _, hs0⟩
  case round =>
    obtain ⟨k, r, hk, rfl, rfl, rfl, hno, hbl, hsz⟩ := hrel
    have hbw : Below w.heap.size w wr := hb0.trans (hbl.mono (by omega))
    have hX : Blk wr w.heap.size 72 #[.int .i64 fn, .int .i64 at_, .int .i64 loop, .slice IA ins.length ic, .slice EA exits.length ec, .int .i64 turn.at_, .int .i64 turn.steps, .slice TS turn.sets.length tsc, .slice TM turn.makes.length tmc, .int .i64 back.at_, .int .i64 back.steps, .slice BS back.sets.length bsc, .slice BM back.makes.length bmc] := (hbl.block _ (by omega)).trans HB0.out.1
    have hY : Blk wr (w.heap.size + 1) 78 #[.int .i64 0, .int .i64 0] := (hbl.block _ (by omega)).trans HB0.out.2
    have HB := Lib.hid (And.intro hX hY); clear hX hY
    have ltr : w.heap.size < wr.heap.size := by omega
    by_cases hlt : k < ins.length + 1
    · have hk1 : (k : Int) ≤ (ins.length : Int) := by omega
      have HA := Lib.hid (rasked_any B ic ec tsc tmc bsc bmc IA EA TS TM BS BM fn at_ loop ins exits turn back wr (H.out.1.below (hbw.mono hB)) (by omega) hil hel H.out.2.1 hft hfb v k (by omega) H.out.2.2.1)
      obtain ⟨p0, p1, p2, p3, p4, p5, p6, p7, p8, p9, p10, p11, p12⟩ := HB.out.1.cells13
      go_wp2_with fail
      refine HA.out.mono ?_
      rintro e w1 ⟨rfl, hb1⟩
      have hs1 := hb1.size
      clear p0 p1 p2 p3 p4 p5 p6 p7 p8 p9 p10 p11 p12
      have hbl1 : Below (w.heap.size + 2) W w1 := hbl.trans (hb1.mono (by omega))
      cases hA : Liv.asked ins exits turn back loop v k with
      | false =>
        have hr1 : r = Liv.lastR (Liv.asked ins exits turn back loop v) (k + 1) := by rw [Liv.lastR_false hA]; exact hno.out.1
        have hn1 : ∀ a, a < k + 1 → Liv.brk ins exits turn back loop v a = false := by
          intro a ha
          by_cases h : a = k
          · subst h; unfold Liv.brk; rw [hA]; rfl
          · exact hno.out.2 a (by omega)
        have HR := Lib.hid (And.intro hr1 hn1); clear hr1 hn1
        have HAA := Lib.hid hA; clear hA
        go_wp2_with fail
        go_roundg (ins.length + 1 - (k + 1))
        case measure => omega
        case rel => exact ⟨k + 1, r, by omega, rfl, rfl, by go_num, HR.out, hbl1, by omega⟩
      | true =>
        have hB1 := HB.out.1.fresh hb1
        have hY1 := HB.out.2.fresh hb1
        obtain ⟨wb, hwb⟩ : ∃ wb, Liv.within ins exits back loop v k = wb := ⟨_, rfl⟩
        have hkk : (wb && decide (v < loop)) = false → ((k : Int) = Liv.lastR (Liv.asked ins exits turn back loop v) (k + 1) ∧ ∀ a, a < k + 1 → Liv.brk ins exits turn back loop v a = false) := by
          intro hq
          refine ⟨(Liv.lastR_true hA).symm, fun a ha => ?_⟩
          by_cases h : a = k
          · subst h; unfold Liv.brk; rw [hA, hwb, Bool.true_and]; exact hq
          · exact hno.out.2 a (by omega)
        have hgo : (wb && decide (v < loop)) = true → S = (v, (ins.length : Int)) := by
          intro hq
          rw [← H.out.2.2.2]
          exact Liv.spanR_brk (k := k) (by omega) (by unfold Liv.brk; rw [hA, hwb, Bool.true_and]; exact hq)
        have HK := Lib.hid (And.intro hkk (And.intro hgo (And.intro hB1 (And.intro hY1 (And.intro hwb hA))))); clear hkk hgo hB1 hY1 hwb hA HB
        have lt1 : w.heap.size < w1.heap.size := by omega
        have hnn : ¬ ((ins.length : Int) < 0) := by omega
        by_cases hke : k = ins.length
        · have he : ((k : Int) == (ins.length : Int)) = true := by rw [hke]; simp
          have hnl : ¬ (k : Int) < (ins.length : Int) := by omega
          have HKE := Lib.hid hke; clear hke
          have t9 := HK.out.2.2.1.cell 9 (v := .int .i64 back.at_) rfl
          have t10 := HK.out.2.2.1.cell 10 (v := .int .i64 back.steps) rfl
          have t11 := HK.out.2.2.1.cell 11 (v := .slice BS back.sets.length bsc) rfl
          have t12 := HK.out.2.2.1.cell 12 (v := .slice BM back.makes.length bmc) rfl
          have c3 := HK.out.2.2.1.cell 3 (v := .slice IA ins.length ic) rfl
          have hwv : wb = (Liv.vals back).contains v := by rw [← HK.out.2.2.2.2.1]; unfold Liv.within; rw [if_pos HKE.out]
          have HWV := Lib.hid hwv; clear hwv
          go_wp2_with fail
          refine (rvals_at B bsc bmc BS BM back w1 ((H.out.1.below (hbw.mono hB)).below (hb1.mono (by omega))).b (by omega) hfb).mono ?_
          rintro e w2 ⟨A2, d2, rfl, ho2, hb2⟩
          have hs2 := hb2.size
          have H2 := Lib.hid (And.intro ho2 (And.intro (HK.out.2.2.1.fresh hb2) (HK.out.2.2.2.1.fresh hb2))); clear ho2 t9 t10 t11 t12 c3
          have hbl2 : Below (w.heap.size + 2) W w2 := hbl1.trans (hb2.mono (by omega))
          have lt2 : w.heap.size < w2.heap.size := by omega
          go_wp2_with fail
          refine (rhas_vals (Liv.vals back) A2 d2 w2.heap.size _ v w2 rfl H2.out.1 (by omega)).mono ?_
          rintro e w9 ⟨rfl, rfl⟩
          cases hv : (Liv.vals back).contains v with
          | false =>
            have hk3 := HK.out.1 (by rw [HWV.out, hv]; rfl)
            have HK3 := Lib.hid hk3; clear hk3
            go_wp2_with fail
            go_roundg (ins.length + 1 - (k + 1))
            case measure => omega
            case rel => exact ⟨k + 1, (k : Int), by omega, rfl, rfl, by go_num, HK3.out, hbl2, by first | omega | (simp; omega)⟩
          | true =>
            have hwt : wb = true := by rw [HWV.out, hv]
            have c2 := (H2.out.2.1).cell 2 (v := .int .i64 loop) rfl
            by_cases h5 : v < loop
            · have hs5 := HK.out.2.1 (by rw [hwt]; simp [h5])
              have HS5 := Lib.hid hs5; clear hs5
              have HYY := Lib.hid (H2.out.2.2)
              have y0 := HYY.out.cell 0 (v := .int .i64 0) rfl
              have y1 := HYY.out.cell 1 (v := .int .i64 0) rfl
              have z0 := HYY.out.frozen 0
              have z1 := HYY.out.frozen 1
              go_wp2_with fail
              refine bodyPost_ret (results_cell1 rfl _ _ (w.heap.size + 1) _ _ _ rfl ((HYY.out.set_ 0 _).set_ 1 _) Try.underlying78 rfl (by kernel_rfl)) rfl ?_
              exact ⟨by rw [HS5.out]; rfl, ((hb0.trans ((hbl2).mono (by omega))).setCell (by simp) _).setCell (by simp) _⟩
            · have h5' : decide (v < loop) = false := by simpa using h5
              have hk3 := HK.out.1 (by rw [h5']; simp)
              have HK3 := Lib.hid hk3; clear hk3
              go_wp2_with fail
              go_roundg (ins.length + 1 - (k + 1))
              case measure => omega
              case rel => exact ⟨k + 1, (k : Int), by omega, rfl, rfl, by go_num, HK3.out, hbl2, by first | omega | (simp; omega)⟩
        · have he : ((k : Int) == (ins.length : Int)) = false := by simp; omega
          have hnl : (k : Int) < (ins.length : Int) := by omega
          have hk0 : (0 : Int) ≤ (k : Int) := by omega
          obtain ⟨b, o, x, rfl, hb, hx, d0, d1, d2, d3, d4, d5, d6, d7, -, j1, j2, j3, -⟩ := ((H.out.1.below (hbw.mono hB)).below (hb1.mono (by omega))).i.tI_ (by omega : k < ins.length)
          have hex := H.out.2.2.1 k x hx
          have hwv : wb = (decide (loop ≤ (k : Int)) && ((Liv.asks x).contains v || (Liv.exitVals exits x.exit).contains v)) := by rw [← HK.out.2.2.2.2.1]; unfold Liv.within Liv.insAsk; rw [if_neg hke, hx]; rfl
          have HWV := Lib.hid hwv; clear hwv
          have hao : ∀ z ∈ Liv.asks x, Flat.ok z := by
            intro z hz
            have := List.mem_of_mem_take hz
            simp at this; rcases this with rfl | rfl | rfl <;> assumption
          have hal : (Liv.asks x).length ≤ 3 := by unfold Liv.asks; rw [List.length_take]; have := Liv.asksN_le x.op; omega
          obtain ⟨N, hN⟩ : ∃ N, (Liv.asks x).length = N := ⟨_, rfl⟩
          rw [hN] at hal
          have HO := Lib.hid (And.intro hao hN); clear hao hN j1 j2 j3 hx
          have c3 := HK.out.2.2.1.cell 3 (v := .slice (some ⟨b, o, none⟩) ins.length ic) rfl
          have c2 := HK.out.2.2.1.cell 2 (v := .int .i64 loop) rfl
          have hbw1 : b < w1.heap.size := by omega
          by_cases h6 : loop ≤ (k : Int)
          · go_wp2_with fail
            refine calls_world (fun W2 => Blk W2 w.heap.size 72 #[.int .i64 fn, .int .i64 at_, .int .i64 loop, .slice (some ⟨b, o, none⟩) ins.length ic, .slice EA exits.length ec, .int .i64 turn.at_, .int .i64 turn.steps, .slice TS turn.sets.length tsc, .slice TM turn.makes.length tmc, .int .i64 back.at_, .int .i64 back.steps, .slice BS back.sets.length bsc, .slice BM back.makes.length bmc] ∧ Blk W2 (w.heap.size + 1) 78 #[.int .i64 0, .int .i64 0] ∧ Blk W2 w1.heap.size 121 #[.int .i64 x.op, .int .i64 x.a, .int .i64 x.b, .int .i64 x.c, .int .i64 x.n, .int .i64 x.exit, .int .i64 x.k.1, .int .i64 x.k.2] ∧ Below w1.heap.size w1 W2 ∧ w1.heap.size + 1 ≤ W2.heap.size) ⟨HK.out.2.2.1.alloc _, HK.out.2.2.2.1.alloc _, Blk.new _ _ _, (Below.refl _ _).alloc (Nat.le_refl _) _, by simp⟩ ?_
            rintro W2 ⟨hT2, hY2, hX2, hb12, hs12⟩
            have H2 := Lib.hid (And.intro hT2 (And.intro hY2 hX2)); clear hT2 hY2 hX2 d0 d1 d2 d3 d4 d5 d6 d7 c2 c3
            refine (rasks_at x N W2 HO.out.2 HO.out.1).mono ?_
            rintro e w3 ⟨A3, d3, rfl, ho3, hb3⟩
            have hs3 := hb3.size
            have H3 := Lib.hid (And.intro ho3 (And.intro (H2.out.1.fresh hb3) (And.intro (H2.out.2.1.fresh hb3) (H2.out.2.2.fresh hb3)))); clear ho3
            have hbl3 : Below (w.heap.size + 2) W w3 := (hbl1.trans (hb12.mono (by omega))).trans (hb3.mono (by omega))
            have lt3 : w.heap.size < w3.heap.size := by omega
            have lt4 : w1.heap.size < w3.heap.size := by omega
            go_wp2_with fail
            refine (rhas_vals (Liv.asks x) A3 d3 w3.heap.size N v w3 HO.out.2 H3.out.1 (by omega)).mono ?_
            rintro e w9 ⟨rfl, rfl⟩
            cases hv : (Liv.asks x).contains v with
            | true =>
              have hwt : wb = true := by rw [HWV.out, hv]; simp [h6]
              have c2 := (H3.out.2.1).cell 2 (v := .int .i64 loop) rfl
              by_cases h5 : v < loop
              · have hs5 := HK.out.2.1 (by rw [hwt]; simp [h5])
                have HS5 := Lib.hid hs5; clear hs5
                have HYY := Lib.hid (H3.out.2.2.1)
                have y0 := HYY.out.cell 0 (v := .int .i64 0) rfl
                have y1 := HYY.out.cell 1 (v := .int .i64 0) rfl
                have z0 := HYY.out.frozen 0
                have z1 := HYY.out.frozen 1
                go_wp2_with fail
                refine bodyPost_ret (results_cell1 rfl _ _ (w.heap.size + 1) _ _ _ rfl ((HYY.out.set_ 0 _).set_ 1 _) Try.underlying78 rfl (by kernel_rfl)) rfl ?_
                exact ⟨by rw [HS5.out]; rfl, ((hb0.trans ((hbl3).mono (by omega))).setCell (by simp) _).setCell (by simp) _⟩
              · have h5' : decide (v < loop) = false := by simpa using h5
                have hk3 := HK.out.1 (by rw [h5']; simp)
                have HK3 := Lib.hid hk3; clear hk3
                go_wp2_with fail
                go_roundg (ins.length + 1 - (k + 1))
                case measure => omega
                case rel => exact ⟨k + 1, (k : Int), by omega, rfl, rfl, by go_num, HK3.out, hbl3, by first | omega | (simp; omega)⟩
            | false =>
              have x5 := H3.out.2.2.2.cell 5 (v := .int .i64 x.exit) rfl
              by_cases h3 : 0 ≤ x.exit
              · obtain ⟨y, hy⟩ : ∃ y : Nat, x.exit = (y : Int) := ⟨x.exit.toNat, by omega⟩
                have hyl : y < exits.length := by omega
                obtain ⟨be, oe, ex, As, cs, Am, cm, rfl, hbE, hxx, e0, e1, e2, e3, as_, qs, am_, qm, r0, r1⟩ := ((H.out.1.below (hb0.mono hB)).below (hbl3.mono (by omega))).e.ex_ hyl
                have hev : Liv.exitVals exits x.exit = Liv.vals ex := by unfold Liv.exitVals; rw [if_neg (by omega), hy, Int.toNat_natCast, hxx]; rfl
                have hvb := H.out.2.1 ex (List.mem_of_getElem? hxx)
                have hok := Liv.vals_ok as_ am_
                have hwv2 : wb = (Liv.vals ex).contains v := by rw [HWV.out, hv, hev]; simp [h6]
                have HWV2 := Lib.hid hwv2; clear hwv2
                have HX := Lib.hid (And.intro as_ (And.intro am_ hok)); clear as_ am_ hok hxx hev qs qm r0 r1
                have c4 := H3.out.2.1.cell 4 (v := .slice (some ⟨be, oe, none⟩) exits.length ec) rfl
                have hbe : be < w3.heap.size := by omega
                have hy0 : (0 : Int) ≤ (y : Int) := by omega
                have hy1 : (y : Int) < (exits.length : Int) := by omega
                rw [hy] at x5
                clear hy h3 hex
                go_wp2_with fail
                refine (rvalues_any B cs cm _ As Am ex w3 HX.out.1 HX.out.2.1 (by omega) rfl hvb).mono ?_
                rintro e w4 ⟨A4, d4, rfl, ho4, hb4⟩
                have hs4 := hb4.size
                have ho4a := ho4.at_ HX.out.2.2
                have H4 := Lib.hid (And.intro ho4a (And.intro (H3.out.2.1.fresh hb4) (H3.out.2.2.1.fresh hb4))); clear ho4 ho4a e0 e1 e2 e3 x5 c4
                have hbl4 : Below (w.heap.size + 2) W w4 := hbl3.trans (hb4.mono (by omega))
                have lt5 : w.heap.size < w4.heap.size := by omega
                go_wp2_with fail
                refine (rhas_vals (Liv.vals ex) A4 d4 w4.heap.size _ v w4 rfl H4.out.1 (by omega)).mono ?_
                rintro e w9 ⟨rfl, rfl⟩
                cases hv2 : (Liv.vals ex).contains v with
                | false =>
                  have hk3 := HK.out.1 (by rw [HWV2.out, hv2]; rfl)
                  have HK3 := Lib.hid hk3; clear hk3
                  go_wp2_with fail
                  go_roundg (ins.length + 1 - (k + 1))
                  case measure => omega
                  case rel => exact ⟨k + 1, (k : Int), by omega, rfl, rfl, by go_num, HK3.out, hbl4, by first | omega | (simp; omega)⟩
                | true =>
                  have hwt : wb = true := by rw [HWV2.out, hv2]
                  have c2 := (H4.out.2.1).cell 2 (v := .int .i64 loop) rfl
                  by_cases h5 : v < loop
                  · have hs5 := HK.out.2.1 (by rw [hwt]; simp [h5])
                    have HS5 := Lib.hid hs5; clear hs5
                    have HYY := Lib.hid (H4.out.2.2)
                    have y0 := HYY.out.cell 0 (v := .int .i64 0) rfl
                    have y1 := HYY.out.cell 1 (v := .int .i64 0) rfl
                    have z0 := HYY.out.frozen 0
                    have z1 := HYY.out.frozen 1
                    go_wp2_with fail
                    refine bodyPost_ret (results_cell1 rfl _ _ (w.heap.size + 1) _ _ _ rfl ((HYY.out.set_ 0 _).set_ 1 _) Try.underlying78 rfl (by kernel_rfl)) rfl ?_
                    exact ⟨by rw [HS5.out]; rfl, ((hb0.trans ((hbl4).mono (by omega))).setCell (by simp) _).setCell (by simp) _⟩
                  · have h5' : decide (v < loop) = false := by simpa using h5
                    have hk3 := HK.out.1 (by rw [h5']; simp)
                    have HK3 := Lib.hid hk3; clear hk3
                    go_wp2_with fail
                    go_roundg (ins.length + 1 - (k + 1))
                    case measure => omega
                    case rel => exact ⟨k + 1, (k : Int), by omega, rfl, rfl, by go_num, HK3.out, hbl4, by first | omega | (simp; omega)⟩
              · have hev : Liv.exitVals exits x.exit = [] := by unfold Liv.exitVals; rw [if_pos (by omega)]
                have hwf : wb = false := by rw [HWV.out, hv, hev]; simp
                have h3' : decide (0 ≤ x.exit) = false := by simpa using h3
                clear h3
                have hk3 := HK.out.1 (by rw [hwf]; rfl)
                have HK3 := Lib.hid hk3; clear hk3
                go_wp2_with fail
                go_roundg (ins.length + 1 - (k + 1))
                case measure => omega
                case rel => exact ⟨k + 1, (k : Int), by omega, rfl, rfl, by go_num, HK3.out, hbl3, by first | omega | (simp; omega)⟩
          · have hwf : wb = false := by rw [HWV.out]; simp [h6]
            have h6' : decide (loop ≤ (k : Int)) = false := by simpa using h6
            clear h6
            have hbl2 : ∀ oo, Below (w.heap.size + 2) W (w1.alloc oo) := fun oo => hbl1.alloc (by omega) oo
            have hk3 := HK.out.1 (by rw [hwf]; rfl)
            have HK3 := Lib.hid hk3; clear hk3
            go_wp2_with fail
            go_roundg (ins.length + 1 - (k + 1))
            case measure => omega
            case rel => exact ⟨k + 1, (k : Int), by omega, rfl, rfl, by go_num, HK3.out, hbl2 _, by first | omega | (simp; omega)⟩
    · obtain rfl : k = ins.length + 1 := by omega
      have hk9 : ¬ ((ins.length + 1 : Nat) : Int) ≤ (ins.length : Int) := by omega
      have hse := H.out.2.2.2
      rw [Liv.spanR_end hno.out.2 hno.out.1] at hse
      have HSE := Lib.hid hse; clear hse
      have HYY := Lib.hid HB.out.2
      by_cases h7 : r < 0
      · go_wp2_with (refine wpList_st rfl 78 (.tmp 4) (.tmp 78) rfl (w.heap.size + 1) rfl rfl HYY.out (by kernel_rfl) rfl rfl ?_)
        refine bodyPost_ret (results_cell1 rfl _ _ (w.heap.size + 1) _ _ _ rfl HYY.out.setRow Try.underlying78 rfl (by kernel_rfl)) rfl ?_
        exact ⟨by rw [← HSE.out, if_pos h7], bel_setRow hbw (by omega) _⟩
      · go_wp2_with (refine wpList_st rfl 78 (.tmp 4) (.tmp 81) rfl (w.heap.size + 1) rfl rfl HYY.out (by kernel_rfl) rfl rfl ?_)
        refine bodyPost_ret (results_cell1 rfl _ _ (w.heap.size + 1) _ _ _ rfl HYY.out.setRow Try.underlying78 rfl (by kernel_rfl)) rfl ?_
        exact ⟨by rw [← HSE.out, if_neg (by omega)], bel_setRow hbw (by omega) _⟩

end Go.Proofs.Ytljdnadejmkaeaa
