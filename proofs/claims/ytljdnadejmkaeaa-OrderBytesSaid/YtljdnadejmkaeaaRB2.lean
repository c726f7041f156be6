/- RB: Ord5, MovesL, Mov1, Mov2, Mov5, Live7, Live8, Live9, Live10, Ord6, Live2, Ord7, Ord8, Ord9, Held, Held2, Ord10. -/
import Derived.Test.YtljdnadejmkaeaaRB1
import Derived.Deep.DeepCutAuto
import Derived.Lib.Hide
import Derived.Deep.LoopGhost
import Derived.Deep.DrawnRows
import Derived.Shelf.GgClosure.Gives
import Derived.Deep.DeepMust
import Derived.Deep.RegionHeld3
import Derived.BigQuiet
import Derived.Deep.QuietTactic
/- order: is an order right by itself? -/
namespace Go.Proofs.Ytljdnadejmkaeaa
open Go.RowKit

theorem box_bad (k : Int × Int) : ((boxL k.1 k.2).2 != 0) = Ord.boxBad k := by
  obtain ⟨k, n⟩ := k
  unfold boxL Ord.boxBad
  rw [show (if k = 2 then -2147483648 else 0) = lowk k from rfl, show (if k = 0 then 0 else if k = 1 then 1 else if k = 2 then 2147483647 else 4294967295) = highk k from rfl]
  generalize lowk k = lo
  generalize highk k = hg
  by_cases h : k < 0 ∨ 6 < k
  · simp [h]
  · rw [if_neg h]
    by_cases h3 : k = 3
    · subst h3
      simp only [if_true]
      split <;> simp
    · rw [if_neg h3]
      have h30 : (k != 3) = true := by simpa using h3
      by_cases h4 : n < lo ∨ hg < n
      · rw [if_pos h4]
        simp [h30, h4]
      · rw [if_neg h4]
        simp only [decide_eq_false h, decide_eq_false h4, Bool.and_false, Bool.or_false]; rfl
theorem egNz : ∀ args w, (callFunc 150 args).run Try.prog w = .ok (.enter 150 args) w := fun _ _ => by kernel_rfl
theorem predNz (l : List Int) (w : World) : PredI Try.prog 150 #[] (fun v => v != 0) l w := by
  rintro W v _ hv hb
  change Calls Try.prog 150 #[.int .i64 v] W _
  go_enter Try.func150, Try.ntmps150
  go_wp2
  go_ret
  exact ⟨rfl, Below.refl _ _⟩
theorem containsFuncInt_n (A : Option Addr) (c B g n : Nat) (lb : Array Value) (p : Int → Bool) (l : List Int) (w : World) (hn : l.length = n) (h : At w B A l) (hB : B ≤ w.heap.size) (hl : n ≤ 9223372036854775807)
    (eg : ∀ args w, (callFunc g args).run Try.prog w = .ok (.enter g args) w) (hp : PredI Try.prog g lb p l w) :
    Calls Try.prog 112 #[.slice A n c, .func (.func g) #[] lb] w fun e w' => e = .returned (.bool (l.any p)) ∧ Below w.heap.size w w' := by
  subst hn; exact containsFuncInt_any A c B g lb p l w h hB hl eg hp
theorem idle_ok (f : Ord.Form) (x : RO) (h : I64 x.a ∧ I64 x.b ∧ I64 x.c) : ∀ u ∈ Ord.idle f x, I64 u := fun u hu => by
  obtain ⟨i, -, rfl⟩ := List.mem_map.1 hu
  exact fld_ok x h i

set_option maxHeartbeats 6400000 in
set_option maxRecDepth 100000 in
theorem right_any (fr : List Nat) (fw : Bool) (fl fh : Int) (fn fk : Bool) (fe : Int) (x : RO) (slots : Int) (nex ec : Nat) (EA : Option Addr) (v0 v1 v2 v4 v6 v7 v8 v9 v10 v11 v12 v13 : Value) (w : World) (hro : ∀ i ∈ fr, i < 3) (hxi : I64 x.a ∧ I64 x.b ∧ I64 x.c) (hki : I64 x.k.1 ∧ I64 x.k.2) :
    Calls Try.prog 131 #[.agg #[.string (Ord.lets fr), .bool fw, .int .i64 fl, .int .i64 fh, .bool fn, .bool fk, .int .i64 fe], .agg #[.int .i64 x.op, .int .i64 x.a, .int .i64 x.b, .int .i64 x.c, .int .i64 x.n, .int .i64 x.exit, .int .i64 x.k.1, .int .i64 x.k.2], .agg #[v0, v1, v2, .int .i64 slots, v4, .slice EA nex ec, v6, v7, v8, v9, v10, v11, v12, v13]] w fun e w' => e = .returned (.bool (Ord.right ⟨fr, fw, fl, fh, fn, fk, fe⟩ x slots nex)) ∧ Below w.heap.size w w' := by
  obtain ⟨Q, hQ⟩ : ∃ Q, Ord.right ⟨fr, fw, fl, fh, fn, fk, fe⟩ x slots nex = Q := ⟨_, rfl⟩
  rw [hQ]
  obtain ⟨nm, hnm⟩ : ∃ nm, Ord.numOf ⟨fr, fw, fl, fh, fn, fk, fe⟩ x = nm := ⟨_, rfl⟩
  obtain ⟨b4, hb4⟩ : ∃ b, Ord.c4 ⟨fr, fw, fl, fh, fn, fk, fe⟩ x = b := ⟨_, rfl⟩
  obtain ⟨b5, hb5⟩ : ∃ b, Ord.c5 ⟨fr, fw, fl, fh, fn, fk, fe⟩ x = b := ⟨_, rfl⟩
  obtain ⟨b7, hb7⟩ : ∃ b, Ord.c7 ⟨fr, fw, fl, fh, fn, fk, fe⟩ x = b := ⟨_, rfl⟩
  obtain ⟨b8, hb8⟩ : ∃ b, Ord.c8 ⟨fr, fw, fl, fh, fn, fk, fe⟩ x = b := ⟨_, rfl⟩
  obtain ⟨b10, hb10⟩ : ∃ b, Ord.c10 ⟨fr, fw, fl, fh, fn, fk, fe⟩ x = b := ⟨_, rfl⟩
  obtain ⟨b11, hb11⟩ : ∃ b, Ord.c11 ⟨fr, fw, fl, fh, fn, fk, fe⟩ x = b := ⟨_, rfl⟩
  obtain ⟨b13, hb13⟩ : ∃ b, Ord.c13 x slots = b := ⟨_, rfl⟩
  obtain ⟨b15, hb15⟩ : ∃ b, Ord.c15 ⟨fr, fw, fl, fh, fn, fk, fe⟩ x = b := ⟨_, rfl⟩
  unfold Ord.right at hQ
  rw [hb4, hb5, hb7, hb8, hb10, hb11, hb13, hb15] at hQ
  unfold Ord.c4 at hb4; unfold Ord.c5 at hb5; unfold Ord.c7 at hb7; unfold Ord.c8 at hb8; unfold Ord.c10 at hb10; unfold Ord.c11 at hb11; unfold Ord.c13 at hb13; unfold Ord.c15 at hb15
  rw [hnm] at hb4 hb5
  unfold Ord.withNum at hb4
  simp only at hb4 hb5 hb7 hb8 hb10 hb11 hb13 hb15
  rw [← box_bad] at hb11
  have HQ := Lib.hid (And.intro hQ (And.intro hb4 (And.intro hro (And.intro hxi hki)))); clear hQ hb4 hro hxi hki
  have HNM := Lib.hid hnm; clear hnm
  have HB5 := Lib.hid hb5; clear hb5
  have HB7 := Lib.hid hb7; clear hb7
  have HB8 := Lib.hid hb8; clear hb8
  have HB10 := Lib.hid hb10; clear hb10
  have HB11 := Lib.hid hb11; clear hb11
  have HB13 := Lib.hid hb13; clear hb13
  have HB15 := Lib.hid hb15; clear hb15
  go_enter Try.func131, Try.ntmps131
  go_wp2_with fail
  refine calls_world (fun W => Blk W w.heap.size 197 #[.string (Ord.lets fr), .bool fw, .int .i64 fl, .int .i64 fh, .bool fn, .bool fk, .int .i64 fe] ∧ Blk W (w.heap.size + 1) 146 #[.int .i64 x.op, .int .i64 x.a, .int .i64 x.b, .int .i64 x.c, .int .i64 x.n, .int .i64 x.exit, .int .i64 x.k.1, .int .i64 x.k.2] ∧ Blk W (w.heap.size + 2) 104 #[v0, v1, v2, .int .i64 slots, v4, .slice EA nex ec, v6, v7, v8, v9, v10, v11, v12, v13] ∧ Below w.heap.size w W ∧ w.heap.size + 3 ≤ W.heap.size) ⟨((Blk.new w _ _).alloc _).alloc _, (Blk.at_ _ _ _ (by simp)).alloc _, Blk.at_ _ _ _ (by simp), (((Below.refl _ _).alloc (Nat.le_refl _) _).alloc (by simp) _).alloc (by simp; omega) _, by simp⟩ ?_
  rintro W ⟨hF, hX, hC, hb0, hs0⟩
  refine (box_any x.k.1 x.k.2 W HQ.out.2.2.2.2.1 HQ.out.2.2.2.2.2).mono ?_
  rintro e w1 ⟨rfl, hb1⟩
  obtain ⟨bw, be, hbe⟩ : ∃ p q, boxL x.k.1 x.k.2 = (p, q) := ⟨_, _, rfl⟩
  rw [hbe] at HB11 ⊢
  have hs1 := hb1.size
  have hbl1 := hb0.trans (hb1.mono (by omega))
  have lt1 : w.heap.size + 2 < w1.heap.size := by omega
  have HB := Lib.hid (And.intro (hF.fresh hb1) (And.intro (hX.fresh hb1) (hC.fresh hb1))); clear hF hX hC hbe
  have x0 := HB.out.2.1.cell 0 (v := .int .i64 x.op) rfl
  have x4 := HB.out.2.1.cell 4 (v := .int .i64 x.n) rfl
  obtain ⟨b2, hb2⟩ : ∃ b, (x.op == 12 && x.n != 1) = b := ⟨_, rfl⟩
  have HB2 := Lib.hid hb2; clear hb2
  go_upto_region 2 with fail
  go_cut [22] (fun ov W2 => ov = .bool b2 ∧ W2 = w1)
  case first =>
    cases d0 : (x.op == 12) with
    | false =>
      go_wp2_with fail
      go_meet
      exact ⟨by rw [← HB2.out, d0]; rfl, rfl⟩
    | true =>
      cases d1 : (x.n != 1) with
      | false =>
        go_wp2_with fail
        go_meet
        exact ⟨by rw [← HB2.out, d0, d1]; rfl, rfl⟩
      | true =>
        go_wp2_with fail
        go_meet
        exact ⟨by rw [← HB2.out, d0, d1]; rfl, rfl⟩
  case rest =>
    obtain ⟨rfl, rfl⟩ := hcut
    clear x0 x4
    go_upto_if 22 with fail
    go_cut [] (fun W2 => Blk W2 w.heap.size 197 #[.string (Ord.lets fr), .bool fw, .int .i64 fl, .int .i64 fh, .bool nm, .bool fk, .int .i64 fe] ∧ Blk W2 (w.heap.size + 1) 146 #[.int .i64 x.op, .int .i64 x.a, .int .i64 x.b, .int .i64 x.c, .int .i64 x.n, .int .i64 x.exit, .int .i64 x.k.1, .int .i64 x.k.2] ∧ Blk W2 (w.heap.size + 2) 104 #[v0, v1, v2, .int .i64 slots, v4, .slice EA nex ec, v6, v7, v8, v9, v10, v11, v12, v13] ∧ Below w.heap.size w W2 ∧ w.heap.size + 2 < W2.heap.size)
    case first =>
      have z4 := HB.out.1.frozen 4
      have y4 := HB.out.1.cell 4 (v := .bool fn) rfl
      cases b2 with
      | true =>
        have hnn : nm = false := by rw [← HNM.out]; unfold Ord.numOf; rw [HB2.out]; simp
        have HN := Lib.hid hnn; clear hnn
        go_wp2_with fail
        go_meet
        refine ⟨?_, HB.out.2.1.far (by simp) _, HB.out.2.2.far (by simp) _, hbl1.setCell (by simp) _, by simp; omega⟩
        have := HB.out.1.set_ 4 (.bool false)
        rw [HN.out]; simpa using this
      | false =>
        have hnn : nm = fn := by rw [← HNM.out]; unfold Ord.numOf; rw [HB2.out]; simp
        have HN := Lib.hid hnn; clear hnn
        go_wp2_with fail
        go_meet
        exact ⟨by rw [HN.out]; exact HB.out.1, HB.out.2.1, HB.out.2.2, hbl1, lt1⟩
    case rest =>
      obtain ⟨hF, hX, hC, hbl2, hs2⟩ := hcut
      have HW := Lib.hid (And.intro hF (And.intro hX hC)); clear hF hX hC HB HNM HB2
      go_wp2_with (first | (refine wpList_ld rfl 197 (.tmp 3) rfl w.heap.size rfl HW.out.1 Try.underlying197 rfl (by kernel_rfl) ?_) | (refine wpList_ld rfl 146 (.tmp 4) rfl (w.heap.size + 1) rfl HW.out.2.1 Try.underlying146 rfl (by kernel_rfl) ?_))
      refine (idle_any fr fw fl fh nm fk fe x wc HQ.out.2.2.1 HQ.out.2.2.2.1).mono ?_
      rintro e w3 ⟨A3, c3, m3, rfl, hm3, ho3, hb3⟩
      have hs3 := hb3.size
      have H3 := Lib.hid (And.intro hm3 (And.intro ho3 (And.intro (HW.out.1.fresh hb3) (And.intro (HW.out.2.1.fresh hb3) (And.intro (HW.out.2.2.fresh hb3) (hbl2.trans (hb3.mono (by omega)))))))); clear hm3 ho3 hb3 HW
      have hml : m3 ≤ 3 := by rw [← H3.out.1]; exact Ord.idleK_len _ x 3
      go_wp2_with fail
      refine (containsFuncInt_n A3 c3 w3.heap.size 150 m3 #[] (fun v => v != 0) _ w3 H3.out.1 (H3.out.2.1.at_ (idle_ok _ x HQ.out.2.2.2.1)) (Nat.le_refl _) (by omega) egNz (predNz _ _)).mono ?_
      rintro e w4 ⟨he4, hb4w⟩
      rw [HQ.out.2.1] at he4
      subst he4
      have hs4 := hb4w.size
      have H4 := Lib.hid (And.intro (H3.out.2.2.1.fresh hb4w) (And.intro (H3.out.2.2.2.1.fresh hb4w) (H3.out.2.2.2.2.1.fresh hb4w)))
      have hbl4 : Below w.heap.size w w4 := H3.out.2.2.2.2.2.trans (hb4w.mono (by omega))
      have lt4 : w.heap.size + 2 < w4.heap.size := by omega
      clear hb4w H3 hs3 hs4 hml
      cases b4 with
      | true =>
        go_wp2_with fail
        go_ret
        exact ⟨ret_bool HQ.out.1, hbl4⟩
      | false =>
        go_upto_region 5 with fail
        go_cut [24] (fun ov W2 => ov = .bool b5 ∧ W2 = w4)
        case first =>
          have f4 := H4.out.1.cell 4 (v := .bool nm) rfl
          have x2 := H4.out.2.1.cell 2 (v := .int .i64 x.b) rfl
          cases nm with
          | false =>
            go_wp2_with fail
            go_meet
            exact ⟨by rw [← HB5.out] <;> rfl, rfl⟩
          | true =>
            cases d1 : (decide (x.b < 0)) with
            | false =>
              cases d2 : (decide (1073741824 < x.b)) with
              | false =>
                go_wp2_with fail
                go_meet
                exact ⟨by rw [← HB5.out, d1, d2] <;> rfl, rfl⟩
              | true =>
                go_wp2_with fail
                go_meet
                exact ⟨by rw [← HB5.out, d1, d2] <;> rfl, rfl⟩
            | true =>
              go_wp2_with fail
              go_meet
              exact ⟨by rw [← HB5.out, d1] <;> rfl, rfl⟩
        case rest =>
          obtain ⟨rfl, hwc⟩ := hcut
          have hwc2 := hwc.symm
          subst hwc2
          clear hwc
          cases b5 with
          | true =>
            go_wp2_with fail
            go_ret
            exact ⟨ret_bool HQ.out.1, hbl4⟩
          | false =>
            go_upto_region 7 with fail
            go_cut [41] (fun ov W2 => ov = .bool b7 ∧ W2 = w4)
            case first =>
              have f1 := H4.out.1.cell 1 (v := .bool fw) rfl
              have x1 := H4.out.2.1.cell 1 (v := .int .i64 x.a) rfl
              cases fw with
              | false =>
                go_wp2_with (go_at_call 133; refine (isReg_any x.a _).mono ?_; rintro e w5 ⟨he5, rfl⟩; rw [d1] at he5; subst he5)
                go_meet
                exact ⟨by rw [← HB7.out] <;> rfl, rfl⟩
              | true =>
                cases d1 : (Ord.isReg x.a) with
                | false =>
                  go_wp2_with (go_at_call 133; refine (isReg_any x.a _).mono ?_; rintro e w5 ⟨he5, rfl⟩; rw [d1] at he5; subst he5)
                  go_meet
                  exact ⟨by rw [← HB7.out, d1] <;> rfl, rfl⟩
                | true =>
                  go_wp2_with (go_at_call 133; refine (isReg_any x.a _).mono ?_; rintro e w5 ⟨he5, rfl⟩; rw [d1] at he5; subst he5)
                  go_meet
                  exact ⟨by rw [← HB7.out, d1] <;> rfl, rfl⟩
            case rest =>
              obtain ⟨rfl, hwc⟩ := hcut
              have hwc2 := hwc.symm
              subst hwc2
              clear hwc
              cases b7 with
              | true =>
                go_wp2_with fail
                go_ret
                exact ⟨ret_bool HQ.out.1, hbl4⟩
              | false =>
                go_upto_region 8 with fail
                go_cut [41] (fun ov W2 => ov = .bool b8 ∧ W2 = w4)
                case first =>
                  have f2 := H4.out.1.cell 2 (v := .int .i64 fl) rfl
                  have f3 := H4.out.1.cell 3 (v := .int .i64 fh) rfl
                  have x4 := H4.out.2.1.cell 4 (v := .int .i64 x.n) rfl
                  cases d1 : (decide (x.n < fl)) with
                  | false =>
                    cases d2 : (decide (fh < x.n)) with
                    | false =>
                      go_wp2_with fail
                      go_meet
                      exact ⟨by rw [← HB8.out, d1, d2] <;> rfl, rfl⟩
                    | true =>
                      go_wp2_with fail
                      go_meet
                      exact ⟨by rw [← HB8.out, d1, d2] <;> rfl, rfl⟩
                  | true =>
                    go_wp2_with fail
                    go_meet
                    exact ⟨by rw [← HB8.out, d1] <;> rfl, rfl⟩
                case rest =>
                  obtain ⟨rfl, hwc⟩ := hcut
                  have hwc2 := hwc.symm
                  subst hwc2
                  clear hwc
                  cases b8 with
                  | true =>
                    go_wp2_with fail
                    go_ret
                    exact ⟨ret_bool HQ.out.1, hbl4⟩
                  | false =>
                    go_upto_region 10 with fail
                    go_cut [62] (fun ov W2 => ov = .bool b10 ∧ W2 = w4)
                    case first =>
                      have f5 := H4.out.1.cell 5 (v := .bool fk) rfl
                      have x6 := H4.out.2.1.cell 6 (v := .int .i64 x.k.1) rfl
                      have x7 := H4.out.2.1.cell 7 (v := .int .i64 x.k.2) rfl
                      cases fk with
                      | false =>
                        cases d1 : (x.k.1 == 0) with
                        | false =>
                          go_wp2_with fail
                          go_meet
                          exact ⟨by rw [← HB10.out, d1] <;> rfl, rfl⟩
                        | true =>
                          cases d2 : (x.k.2 == 0) with
                          | false =>
                            go_wp2_with fail
                            go_meet
                            exact ⟨by rw [← HB10.out, d1, d2] <;> rfl, rfl⟩
                          | true =>
                            go_wp2_with fail
                            go_meet
                            exact ⟨by rw [← HB10.out, d1, d2] <;> rfl, rfl⟩
                      | true =>
                        go_wp2_with fail
                        go_meet
                        exact ⟨by rw [← HB10.out] <;> rfl, rfl⟩
                    case rest =>
                      obtain ⟨rfl, hwc⟩ := hcut
                      have hwc2 := hwc.symm
                      subst hwc2
                      clear hwc
                      cases b10 with
                      | true =>
                        go_wp2_with fail
                        go_ret
                        exact ⟨ret_bool HQ.out.1, hbl4⟩
                      | false =>
                        go_upto_region 11 with fail
                        go_cut [62] (fun ov W2 => ov = .bool b11 ∧ W2 = w4)
                        case first =>
                          have f5 := H4.out.1.cell 5 (v := .bool fk) rfl
                          cases fk with
                          | false =>
                            go_wp2_with fail
                            go_meet
                            exact ⟨by rw [← HB11.out] <;> rfl, rfl⟩
                          | true =>
                            cases d1 : (be != 0) with
                            | false =>
                              go_wp2_with fail
                              go_meet
                              exact ⟨by rw [← HB11.out, d1] <;> rfl, rfl⟩
                            | true =>
                              go_wp2_with fail
                              go_meet
                              exact ⟨by rw [← HB11.out, d1] <;> rfl, rfl⟩
                        case rest =>
                          obtain ⟨rfl, hwc⟩ := hcut
                          have hwc2 := hwc.symm
                          subst hwc2
                          clear hwc
                          cases b11 with
                          | true =>
                            go_wp2_with fail
                            go_ret
                            exact ⟨ret_bool HQ.out.1, hbl4⟩
                          | false =>
                            go_upto_region 13 with fail
                            go_cut [78] (fun ov W2 => ov = .bool b13 ∧ W2 = w4)
                            case first =>
                              have x0 := H4.out.2.1.cell 0 (v := .int .i64 x.op) rfl
                              have x4 := H4.out.2.1.cell 4 (v := .int .i64 x.n) rfl
                              have c3 := H4.out.2.2.cell 3 (v := .int .i64 slots) rfl
                              cases d1 : (x.op == 3) with
                              | false =>
                                cases d2 : (x.op == 4) with
                                | false =>
                                  go_wp2_with fail
                                  go_meet
                                  exact ⟨by rw [← HB13.out, d1, d2] <;> rfl, rfl⟩
                                | true =>
                                  cases d3 : (decide (slots ≤ x.n)) with
                                  | false =>
                                    go_wp2_with fail
                                    go_meet
                                    exact ⟨by rw [← HB13.out, d1, d2, d3] <;> rfl, rfl⟩
                                  | true =>
                                    go_wp2_with fail
                                    go_meet
                                    exact ⟨by rw [← HB13.out, d1, d2, d3] <;> rfl, rfl⟩
                              | true =>
                                cases d3 : (decide (slots ≤ x.n)) with
                                | false =>
                                  go_wp2_with fail
                                  go_meet
                                  exact ⟨by rw [← HB13.out, d1, d3] <;> rfl, rfl⟩
                                | true =>
                                  go_wp2_with fail
                                  go_meet
                                  exact ⟨by rw [← HB13.out, d1, d3] <;> rfl, rfl⟩
                            case rest =>
                              obtain ⟨rfl, hwc⟩ := hcut
                              have hwc2 := hwc.symm
                              subst hwc2
                              clear hwc
                              cases b13 with
                              | true =>
                                go_wp2_with fail
                                go_ret
                                exact ⟨ret_bool HQ.out.1, hbl4⟩
                              | false =>
                                go_upto_region 15 with fail
                                go_cut [94] (fun ov W2 => ov = .bool b15 ∧ W2 = w4)
                                case first =>
                                  have f6 := H4.out.1.cell 6 (v := .int .i64 fe) rfl
                                  have x5 := H4.out.2.1.cell 5 (v := .int .i64 x.exit) rfl
                                  cases d1 : (fe == 0) with
                                  | false =>
                                    cases d2 : (fe == 1) with
                                    | false =>
                                      go_wp2_with fail
                                      go_meet
                                      exact ⟨by rw [← HB15.out, d1, d2] <;> rfl, rfl⟩
                                    | true =>
                                      cases d3 : (x.exit == -1) with
                                      | false =>
                                        go_wp2_with fail
                                        go_meet
                                        exact ⟨by rw [← HB15.out, d1, d2, d3] <;> rfl, rfl⟩
                                      | true =>
                                        go_wp2_with fail
                                        go_meet
                                        exact ⟨by rw [← HB15.out, d1, d2, d3] <;> rfl, rfl⟩
                                  | true =>
                                    go_wp2_with fail
                                    go_meet
                                    exact ⟨by rw [← HB15.out, d1] <;> rfl, rfl⟩
                                case rest =>
                                  obtain ⟨rfl, hwc⟩ := hcut
                                  have hwc2 := hwc.symm
                                  subst hwc2
                                  clear hwc
                                  have x5 := H4.out.2.1.cell 5 (v := .int .i64 x.exit) rfl
                                  have c5 := H4.out.2.2.cell 5 (v := .slice EA nex ec) rfl
                                  cases b15 with
                                  | true =>
                                    go_wp2_with fail
                                    go_ret
                                    exact ⟨ret_bool HQ.out.1, hbl4⟩
                                  | false =>
                                    cases d1 : (decide (0 ≤ x.exit)) with
                                    | false =>
                                      have HZ := Lib.hid (show Q = (decide (0 ≤ x.exit) && decide (x.exit < nex)) by rw [← HQ.out.1] <;> rfl)
                                      go_wp2_with fail
                                      go_ret
                                      exact ⟨ret_bool (by rw [HZ.out, d1] <;> rfl), hbl4⟩
                                    | true =>
                                      cases d2 : (decide (x.exit < (nex : Int))) with
                                      | false =>
                                        have HZ := Lib.hid (show Q = (decide (0 ≤ x.exit) && decide (x.exit < nex)) by rw [← HQ.out.1] <;> rfl)
                                        go_wp2_with fail
                                        go_ret
                                        exact ⟨ret_bool (by rw [HZ.out, d1, d2] <;> rfl), hbl4⟩
                                      | true =>
                                        have HZ := Lib.hid (show Q = (decide (0 ≤ x.exit) && decide (x.exit < nex)) by rw [← HQ.out.1] <;> rfl)
                                        go_wp2_with fail
                                        go_ret
                                        exact ⟨ret_bool (by rw [HZ.out, d1, d2] <;> rfl), hbl4⟩

end Go.Proofs.Ytljdnadejmkaeaa

/- Moves side by side, the plain law: what is wrong with a list of moves; the row of moves, step by step. No program is named here. -/
namespace Go.Proofs.Ytljdnadejmkaeaa

/-- a move is (To, From) -/
def noTwice (l : List (Int × Int)) : Bool := decide ((l.map (·.1)).Nodup)
def mvErr (l : List (Int × Int)) (spare : Int) : Int :=
  if 60 < l.length then 2 else if noTwice l = false then 6 else if l.any (fun m => decide (m.1 = spare) || decide (m.2 = spare)) = true then 1 else 0

theorem noTwice_snoc (l : List (Int × Int)) (k : Nat) (x : Int × Int) (h : l[k]? = some x) (h1 : noTwice (l.take k) = true) (h2 : (l.take k).any (fun y => decide (y.1 = x.1)) = false) : noTwice (l.take (k + 1)) = true := by
  unfold noTwice at *
  rw [List.take_add_one, h]
  simp only [Option.toList_some, List.map_append, List.map_cons, List.map_nil, decide_eq_true_eq] at *
  rw [List.nodup_append]
  refine ⟨h1, by simp, ?_⟩
  intro a ha b hb hab
  simp only [List.mem_singleton] at hb
  subst hb
  obtain ⟨y, hy, rfl⟩ := List.mem_map.1 ha
  have := List.any_eq_false.1 h2 y hy
  simp at this
  exact this hab
theorem noTwice_stop (l : List (Int × Int)) (k : Nat) (x : Int × Int) (h : l[k]? = some x) (h2 : (l.take k).any (fun y => decide (y.1 = x.1)) = true) : noTwice l = false := by
  unfold noTwice
  rw [decide_eq_false_iff_not]
  intro hn
  obtain ⟨y, hy, he⟩ := List.any_eq_true.1 h2
  simp only [decide_eq_true_eq] at he
  have hs : l = l.take k ++ l.drop k := (List.take_append_drop k l).symm
  rw [hs, List.map_append, List.nodup_append] at hn
  obtain ⟨-, -, hd⟩ := hn
  have hxm : x ∈ l.drop k := by
    rw [List.mem_iff_getElem?]; exact ⟨0, by rw [List.getElem?_drop]; simpa using h⟩
  exact hd y.1 (List.mem_map.2 ⟨y, hy, rfl⟩) x.1 (List.mem_map.2 ⟨x, hxm, rfl⟩) he

/-- does nobody else want what a move writes? -/
def fre (left : List (Int × Int)) (m : Int × Int) : Bool := !(left.any fun x => decide (x.2 = m.1))
def cyc (spare to_ : Int) (m : Int × Int) : Int × Int := if m.2 = to_ then (m.1, spare) else m
/-- the row of moves, after so many steps at most -/
def mvs (spare : Int) : Nat → List (Int × Int) → List (Int × Int) → List (Int × Int)
  | 0, _, out => out
  | n + 1, left, out =>
    if left = [] then out
    else if left.any (fre left) = true then mvs spare n (left.eraseIdx (left.findIdx (fre left))) (out ++ [left.getD (left.findIdx (fre left)) (0, 0)])
    else mvs spare n (left.map (cyc spare (left.headD (0, 0)).1)) (out ++ [(spare, (left.headD (0, 0)).1)])
def mvMeas (left : List (Int × Int)) : Nat := 2 * left.length + if left.any (fre left) = true then 0 else 1
/-- moves that are to be done: none of them to where it is from, none of them to the spare one -/
def mvOk (spare : Int) (left : List (Int × Int)) : Prop := ∀ m ∈ left, m.1 ≠ m.2 ∧ m.1 ≠ spare
def proper (l : List (Int × Int)) : List (Int × Int) := l.filter fun m => decide (m.1 ≠ m.2)
/-- the answer -/
def mvAll (l : List (Int × Int)) (spare : Int) : List (Int × Int) := mvs spare (2 * (proper l).length + 2) (proper l) []

theorem mvMeas_le (left : List (Int × Int)) : mvMeas left ≤ 2 * left.length + 1 := by unfold mvMeas; split <;> omega
theorem proper_ok (l : List (Int × Int)) (spare : Int) (h : mvErr l spare = 0) : mvOk spare (proper l) := by
  intro m hm
  simp only [proper, List.mem_filter, decide_eq_true_eq] at hm
  refine ⟨hm.2, fun hs => ?_⟩
  unfold mvErr at h
  split at h
  · cases h
  · split at h
    · cases h
    · split at h
      · cases h
      · rename_i h3
        rw [Bool.not_eq_true, List.any_eq_false] at h3
        have := h3 m hm.1
        simp [hs] at this
theorem mvOk.erase {spare : Int} {left : List (Int × Int)} (h : mvOk spare left) (i : Nat) : mvOk spare (left.eraseIdx i) := fun m hm => h m (List.mem_of_mem_eraseIdx hm)
theorem mvOk.cyc {spare to_ : Int} {left : List (Int × Int)} (h : mvOk spare left) : mvOk spare (left.map (cyc spare to_)) := by
  intro m hm
  obtain ⟨x, hx, rfl⟩ := List.mem_map.1 hm
  have := h x hx
  unfold Proofs.Ytljdnadejmkaeaa.cyc
  split
  · exact ⟨this.2, this.2⟩
  · exact this
/-- a step that does a move -/
theorem mvs_do {spare : Int} {n : Nat} {left out : List (Int × Int)} (hl : left ≠ []) (hf : left.any (fre left) = true) :
    mvs spare (n + 1) left out = mvs spare n (left.eraseIdx (left.findIdx (fre left))) (out ++ [left.getD (left.findIdx (fre left)) (0, 0)]) := by
  rw [mvs, if_neg hl, if_pos hf]
theorem mvs_cyc {spare : Int} {n : Nat} {left out : List (Int × Int)} (hl : left ≠ []) (hf : left.any (fre left) = false) :
    mvs spare (n + 1) left out = mvs spare n (left.map (cyc spare (left.headD (0, 0)).1)) (out ++ [(spare, (left.headD (0, 0)).1)]) := by
  rw [mvs, if_neg hl, if_neg (by simp [hf])]
theorem mvs_end {spare : Int} {n : Nat} {out : List (Int × Int)} : mvs spare n [] out = out := by
  cases n <;> simp [mvs]
theorem mvMeas_do {left : List (Int × Int)} (hf : left.any (fre left) = true) : mvMeas (left.eraseIdx (left.findIdx (fre left))) < mvMeas left := by
  have hi : left.findIdx (fre left) < left.length := by
    rw [List.findIdx_lt_length]; exact List.any_eq_true.1 hf
  have h1 := mvMeas_le (left.eraseIdx (left.findIdx (fre left)))
  rw [List.length_eraseIdx_of_lt hi] at h1
  have h2 : 2 * left.length ≤ mvMeas left := by unfold mvMeas; omega
  omega
theorem mvMeas_cyc {spare : Int} {left : List (Int × Int)} (hl : left ≠ []) (hf : left.any (fre left) = false) (hok : mvOk spare left) : mvMeas (left.map (cyc spare (left.headD (0, 0)).1)) < mvMeas left := by
  have h1 : mvMeas left = 2 * left.length + 1 := by unfold mvMeas; rw [if_neg (by simp [hf])]
  have h2 : (left.map (cyc spare (left.headD (0, 0)).1)).any (fre (left.map (cyc spare (left.headD (0, 0)).1))) = true := by
    obtain ⟨m, r, rfl⟩ : ∃ m r, left = m :: r := by cases left with | nil => exact absurd rfl hl | cons m r => exact ⟨m, r, rfl⟩
    rw [List.any_eq_true]
    refine ⟨cyc spare m.1 m, by simp, ?_⟩
    have hm1 : (cyc spare m.1 m).1 = m.1 := by unfold cyc; split <;> rfl
    unfold fre
    rw [Bool.not_eq_true', List.any_eq_false, hm1]
    intro x hx
    obtain ⟨y, hy, rfl⟩ := List.mem_map.1 hx
    have hsp := (hok m (by simp)).2
    rw [List.headD_cons, decide_eq_true_eq]
    unfold cyc
    split
    · exact fun h => hsp h.symm
    · assumption
  have h3 : mvMeas (left.map (cyc spare (left.headD (0, 0)).1)) = 2 * left.length := by unfold mvMeas; rw [if_pos h2, List.length_map]; omega
  omega
/-- the program's test of a move is the reference's, where no move is to where it is from -/
theorem fre_own {spare : Int} {left : List (Int × Int)} (hok : mvOk spare left) (m : Int × Int) (hm : m ∈ left) : (!(left.any fun x => !decide (x = m) && decide (x.2 = m.1))) = fre left m := by
  unfold fre
  congr 1
  rw [Bool.eq_iff_iff, List.any_eq_true, List.any_eq_true]
  constructor
  · rintro ⟨x, hx, h⟩
    simp only [Bool.and_eq_true] at h
    exact ⟨x, hx, h.2⟩
  · rintro ⟨x, hx, h⟩
    refine ⟨x, hx, ?_⟩
    simp only [Bool.and_eq_true]
    refine ⟨?_, h⟩
    simp only [decide_eq_true_eq] at h
    simp only [Bool.not_eq_true', decide_eq_false_iff_not]
    rintro rfl
    exact (hok x hx).1 h.symm
theorem mvs_length (spare : Int) : ∀ (n : Nat) (left out : List (Int × Int)), (mvs spare n left out).length ≤ out.length + n := by
  intro n
  induction n with
  | zero => intro left out; simp [mvs]
  | succ n ih =>
    intro left out
    rw [mvs]
    split
    · omega
    · split
      · have := ih (left.eraseIdx (left.findIdx (fre left))) (out ++ [left.getD (left.findIdx (fre left)) (0, 0)]); rw [List.length_append, List.length_singleton] at this; omega
      · have := ih (left.map (cyc spare (left.headD (0, 0)).1)) (out ++ [(spare, (left.headD (0, 0)).1)]); rw [List.length_append, List.length_singleton] at this; omega

end Go.Proofs.Ytljdnadejmkaeaa

/- moves: the small functions: what is wrong with a list of moves; the first one that may be done. -/
namespace Go.Proofs.Ytljdnadejmkaeaa
open Go.RowKit

theorem At.take_ {α : Type} [Enc α] {w : World} {B : Nat} {A : Option Addr} {l : List α} (h : At w B A l) (k : Nat) : At w B A (l.take k) := fun i x hx => h i x (by
  rw [List.getElem?_take] at hx
  split at hx
  · exact hx
  · cases hx)

theorem containsRMove_n (A : Option Addr) (c B g n : Nat) (lb : Array Value) (p : Int × Int → Bool) (l : List (Int × Int)) (w : World) (hn : l.length = n) (h : At w B A l) (hB : B ≤ w.heap.size) (hl : n ≤ 9223372036854775807)
    (eg : ∀ args w, (callFunc g args).run Try.prog w = .ok (.enter g args) w) (hp : PredP Try.prog g lb p l w) :
    Calls Try.prog 102 #[.slice A n c, .func (.func g) #[] lb] w fun e w' => e = .returned (.bool (l.any p)) ∧ Below w.heap.size w w' := by
  subst hn; exact containsFuncRMove_any A c B g lb p l w h hB hl eg hp
theorem indexRMove_n (A : Option Addr) (c B g n : Nat) (lb : Array Value) (p : Int × Int → Bool) (l : List (Int × Int)) (w : World) (hn : l.length = n) (h : At w B A l) (hB : B ≤ w.heap.size) (hl : n ≤ 9223372036854775807)
    (eg : ∀ args w, (callFunc g args).run Try.prog w = .ok (.enter g args) w) (hp : PredP Try.prog g lb p l w) :
    Calls Try.prog 105 #[.slice A n c, .func (.func g) #[] lb] w fun e w' => e = .returned (.int .i64 (idxI p l)) ∧ Below w.heap.size w w' := by
  subst hn; exact indexFuncRMove_any A c B g lb p l w h hB hl eg hp

theorem ret_i64 {a b : Int} (h : a = b) : Ending.returned (.int .i64 a) = .returned (.int .i64 b) := by rw [h]

theorem predChk1 (M : Nat) (m : Int × Int) (l : List (Int × Int)) (w : World) (hM : Blk w M 62 #[.int .i64 m.1, .int .i64 m.2]) : PredP Try.prog 103 #[.pointer (some ⟨M, 0, none⟩)] (fun y => decide (y.1 = m.1)) l w := by
  rintro W ⟨x, y⟩ _ _ hb
  change Calls Try.prog 103 #[.agg #[.int .i64 x, .int .i64 y], .pointer (some ⟨M, 0, none⟩)] W _
  have c0 := (hM.fresh hb).cell 0 (v := .int .i64 m.1) rfl
  have hlt := hM.lt
  have hs := hb.size
  have hlt2 : M < W.heap.size := by omega
  go_enter Try.func103, Try.ntmps103
  go_wp2
  go_ret
  exact ⟨ret_bool (by rw [Bool.eq_iff_iff]; simp), (Below.refl _ _).alloc (Nat.le_refl _) _⟩

theorem predChk2 (M : Nat) (spare : Int) (l : List (Int × Int)) (w : World) (hM : Blk w M 3 #[.int .i64 spare]) : PredP Try.prog 104 #[.pointer (some ⟨M, 0, none⟩)] (fun m => decide (m.1 = spare) || decide (m.2 = spare)) l w := by
  rintro W ⟨x, y⟩ _ _ hb
  change Calls Try.prog 104 #[.agg #[.int .i64 x, .int .i64 y], .pointer (some ⟨M, 0, none⟩)] W _
  have c0 := (hM.fresh hb).cell 0 (v := .int .i64 spare) rfl
  have hlt := hM.lt
  have hs := hb.size
  have hlt2 : M < W.heap.size := by omega
  by_cases h1 : x = spare
  · have h1' : (x == spare) = true := by simpa using h1
    have H := Lib.hid h1; clear h1
    go_enter Try.func104, Try.ntmps104
    go_wp2
    go_ret
    exact ⟨ret_bool (by simp [H.out]), (Below.refl _ _).alloc (Nat.le_refl _) _⟩
  · have h1' : (x == spare) = false := by simpa using h1
    have H := Lib.hid h1; clear h1
    go_enter Try.func104, Try.ntmps104
    go_wp2
    go_ret
    exact ⟨ret_bool (by rw [Bool.eq_iff_iff]; simp [H.out]), (Below.refl _ _).alloc (Nat.le_refl _) _⟩

theorem egOf1 : ∀ args w, (callFunc 103 args).run Try.prog w = .ok (.enter 103 args) w := fun _ _ => by kernel_rfl
theorem egOf2 : ∀ args w, (callFunc 104 args).run Try.prog w = .ok (.enter 104 args) w := fun _ _ => by kernel_rfl

set_option maxHeartbeats 800000 in
set_option maxRecDepth 100000 in
theorem mcheck_any (A : Option Addr) (c B : Nat) (l : List (Int × Int)) (spare : Int) (w : World) (h : At w B A l) (hB : B ≤ w.heap.size) (hl : l.length ≤ 9223372036854775807) (hc : l.length ≤ c) :
    Calls Try.prog 51 #[.slice A l.length c, .int .i64 spare] w fun e w' => e = .returned (.int .i64 (mvErr l spare)) ∧ Below w.heap.size w w' := by
  by_cases h60 : 60 < l.length
  · have he : mvErr l spare = 2 := by unfold mvErr; rw [if_pos h60]
    rw [he]; clear he h
    go_enter Try.func51, Try.ntmps51
    go_wp2
    go_ret
    exact ⟨rfl, (Below.refl _ _).alloc (Nat.le_refl _) _⟩
  have H := Lib.hid h; clear h
  go_enter Try.func51, Try.ntmps51
  go_wp2
  refine wp_world (fun W => Blk W w.heap.size 3 #[.int .i64 spare] ∧ Below w.heap.size w W ∧ w.heap.size + 1 ≤ W.heap.size) ⟨Blk.new _ _ _, (Below.refl _ _).alloc (Nat.le_refl _) _, by simp⟩ ?_
  rintro W0 ⟨hS, hb0, hs0⟩
  go_loopw [12] (fun i wr => ∃ k : Nat, k ≤ l.length ∧ i = .int .i64 k ∧ Hid (noTwice (l.take k) = true ∧ Blk wr w.heap.size 3 #[.int .i64 spare]) ∧ Below w.heap.size w wr ∧ w.heap.size + 1 ≤ wr.heap.size) (fun i _ => l.length - (intOf i).toNat)
  case atStart => exact ⟨0, Nat.zero_le _, rfl, ⟨by simp [noTwice], hS⟩, hb0, hs0⟩
  case round =>
    obtain ⟨k, hk, rfl, hkeep, hbl, hsz⟩ := hrel
    clear hS hb0
    by_cases hlt : k < l.length
    · have hat := H.out.below (hbl.mono hB)
      obtain ⟨b, o, x, y, rfl, hb, hx, -, -, g0, g1⟩ := hat.pair hlt
      have HX := Lib.hid hx; clear hx
      have HA := Lib.hid hat; clear hat
      have hle : k ≤ l.length := hk
      have hkc : k ≤ c := by omega
      go_wp2_with fail
      refine calls_world (fun W => Blk W wr.heap.size 62 #[.int .i64 x, .int .i64 y] ∧ Below wr.heap.size wr W ∧ wr.heap.size + 1 ≤ W.heap.size) ⟨Blk.new _ _ _, (Below.refl _ _).alloc (Nat.le_refl _) _, by simp⟩ ?_
      rintro W1 ⟨hM, hb1, hs1⟩
      have hct := containsRMove_n (some ⟨b, o, none⟩) c B 103 k #[.pointer (some ⟨wr.heap.size, 0, none⟩)] _ (l.take k) W1 (by rw [List.length_take]; omega) ((HA.out.below (hb1.mono (by omega))).take_ k) (by omega) (by omega) egOf1 (predChk1 wr.heap.size (x, y) _ _ hM)
      cases hq : (l.take k).any (fun z => decide (z.1 = (x, y).1)) with
      | true =>
        rw [hq] at hct
        have HC := Lib.hid hct; clear hct
        have he : mvErr l spare = 6 := by unfold mvErr; rw [if_neg h60, if_pos (noTwice_stop l k _ HX.out hq)]
        have HE := Lib.hid he; clear he hq hM
        refine HC.out.mono ?_
        rintro e w1 ⟨rfl, hb2⟩
        go_wp2_with fail
        go_ret
        exact ⟨ret_i64 HE.out.symm, hbl.trans ((hb1.mono (by omega)).trans (hb2.mono (by omega)))⟩
      | false =>
        rw [hq] at hct
        have HC := Lib.hid hct; clear hct
        have HQ := Lib.hid hq; clear hq hM
        refine HC.out.mono ?_
        rintro e w1 ⟨rfl, hb2⟩
        go_wp2_with fail
        go_roundw
        case rel => exact ⟨k + 1, by omega, by go_num, ⟨noTwice_snoc l k _ HX.out hkeep.out.1 HQ.out, (hkeep.out.2.fresh hb1).fresh hb2⟩, hbl.trans ((hb1.mono (by omega)).trans (hb2.mono (by omega))), by have := hb2.size; omega⟩
        case measure => simp [intOf]; omega
    · have hat := H.out.below (hbl.mono hB)
      have hk2 := hkeep.out.1
      rw [List.take_of_length_le (by omega)] at hk2
      have HA := Lib.hid hat; clear hat
      have HN := Lib.hid hk2; clear hk2
      go_wp2_with fail
      have hct := containsRMove_n A c B 104 l.length #[.pointer (some ⟨w.heap.size, 0, none⟩)] _ l wr rfl HA.out (by omega) (by omega) egOf2 (predChk2 w.heap.size spare _ _ hkeep.out.2)
      cases hq : l.any (fun m => decide (m.1 = spare) || decide (m.2 = spare)) with
      | true =>
        rw [hq] at hct
        have HC := Lib.hid hct; clear hct
        have he : mvErr l spare = 1 := by unfold mvErr; rw [if_neg h60, if_neg (by simp [HN.out]), if_pos hq]
        have HE := Lib.hid he; clear he hq
        refine HC.out.mono ?_
        rintro e w1 ⟨rfl, hb2⟩
        go_wp2_with fail
        go_ret
        exact ⟨ret_i64 HE.out.symm, hbl.trans (hb2.mono (by omega))⟩
      | false =>
        rw [hq] at hct
        have HC := Lib.hid hct; clear hct
        have he : mvErr l spare = 0 := by unfold mvErr; rw [if_neg h60, if_neg (by simp [HN.out]), if_neg (by simp [hq])]
        have HE := Lib.hid he; clear he hq
        refine HC.out.mono ?_
        rintro e w1 ⟨rfl, hb2⟩
        go_wp2_with fail
        go_ret
        exact ⟨ret_i64 HE.out.symm, hbl.trans (hb2.mono (by omega))⟩

end Go.Proofs.Ytljdnadejmkaeaa

/- slices.DeleteFunc and slices.Delete at moves, over a row of the caller's own. -/
namespace Go.Proofs.Ytljdnadejmkaeaa
open Go.RowKit

attribute [local go_sem ↓] Go.wp_at_zero Go.wp_at_succ

theorem ret_slice {A : Option Addr} {n m c : Nat} (h : n = m) : Ending.returned (.slice A n c) = .returned (.slice A m c) := by rw [h]
def pv (x : Int × Int) : Value := .agg #[.int .i64 x.1, .int .i64 x.2]

theorem findIdx_take_filter {α : Type} (p : α → Bool) (l : List α) (h : l.any p = true) : (l.take (l.findIdx p + 1)).filter (fun x => !p x) = l.take (l.findIdx p) := by
  have hi : l.findIdx p < l.length := by rw [List.findIdx_lt_length]; exact List.any_eq_true.1 h
  rw [List.take_add_one, List.getElem?_eq_getElem hi, Option.toList_some, List.filter_append]
  have h1 : (l.take (l.findIdx p)).filter (fun x => !p x) = l.take (l.findIdx p) := by
    rw [List.filter_eq_self]
    intro a ha
    obtain ⟨j, hj, rfl⟩ := List.mem_take_iff_getElem.1 ha
    have := List.not_of_lt_findIdx (p := p) (xs := l) (i := j) (by omega)
    simpa using this
  have h2 : p l[l.findIdx p] = true := List.findIdx_getElem
  rw [h1]
  simp [h2]

/-- what a round of DeleteFunc keeps: the list as it stands, so many kept, so many seen -/
def DelSt {α : Type} (p : α → Bool) (l cur : List α) (i j : Nat) : Prop :=
  cur.length = l.length ∧ cur.take i = (l.take j).filter (fun x => !p x) ∧ cur.drop j = l.drop j ∧ i < j ∧ j ≤ l.length
theorem DelSt.keep {α : Type} {p : α → Bool} {l cur : List α} {i j : Nat} (h : DelSt p l cur i j) {x : α} (hx : l[j]? = some x) (hp : p x = false) : DelSt p l (cur.set i x) (i + 1) (j + 1) := by
  obtain ⟨h1, h2, h3, h4, h5⟩ := h
  have hj : j < l.length := (List.getElem?_eq_some_iff.1 hx).1
  refine ⟨by simp [h1], ?_, ?_, by omega, by omega⟩
  · rw [List.take_add_one, List.take_set_of_le (Nat.le_refl _), h2, List.getElem?_set_self (by omega), List.take_add_one, hx, List.filter_append]
    simp [hp]
  · rw [List.drop_set_of_lt (by omega), show j + 1 = j + 1 from rfl, ← List.drop_drop, ← List.drop_drop, h3]
theorem DelSt.skip {α : Type} {p : α → Bool} {l cur : List α} {i j : Nat} (h : DelSt p l cur i j) {x : α} (hx : l[j]? = some x) (hp : p x = true) : DelSt p l cur i (j + 1) := by
  obtain ⟨h1, h2, h3, h4, h5⟩ := h
  have hj : j < l.length := (List.getElem?_eq_some_iff.1 hx).1
  refine ⟨h1, ?_, ?_, by omega, by omega⟩
  · rw [h2, List.take_add_one, hx, List.filter_append]
    simp [hp]
  · rw [← List.drop_drop, ← List.drop_drop, h3]
theorem DelSt.get {α : Type} {p : α → Bool} {l cur : List α} {i j : Nat} (h : DelSt p l cur i j) {x : α} (hx : l[j]? = some x) : cur[j]? = some x := by
  have h3 : (cur.drop j)[0]? = (l.drop j)[0]? := by rw [h.2.2.1]
  simpa [hx] using h3

theorem predP_of_QRMove {g : Nat} {lb : Array Value} {p : Int×Int → Bool} {l : List (Int×Int)} {row : Option Nat} {w : World} (h : PredQ Try.prog g lb pv p l row w) : PredP Try.prog g lb p l w := fun W x hx ho hb => h W x hx ho (grownBy_below row hb)

theorem zeroRMove : ∀ w, (zeroValue 62).run Try.prog w = .ok (.agg #[.int .i64 0, .int .i64 0]) w := fun _ => by kernel_rfl

set_option maxHeartbeats 1600000 in
set_option maxRecDepth 100000 in
theorem deleteFuncRMove_any (A : Option Addr) (c base g n : Nat) (lb : Array Value) (p : Int×Int → Bool) (l : List (Int×Int)) (w : World) (hn : l.length = n) (h : Own w base 62 A c l) (hok : ∀ x ∈ l, Flat.ok x)
    (eg : ∀ args w, (callFunc g args).run Try.prog w = .ok (.enter g args) w) (hp : PredQ Try.prog g lb pv p l (rowOf A) w) :
    Calls Try.prog 52 #[.slice A n c, .func (.func g) #[] lb] w fun e w' => e = .returned (.slice A (l.filter fun x => !p x).length c) ∧ Own w' base 62 A c (l.filter fun x => !p x) ∧ w.grownBy w' (rowOf A) := by
  have hcap := h.le_cap
  have hmax : n ≤ 9223372036854775807 := by have := hcap; unfold maxLen at this; omega
  have hct := indexRMove_n A c w.heap.size g n lb p l w hn (h.at_ hok) (Nat.le_refl _) hmax eg (predP_of_QRMove hp)
  have HP := Lib.hid hp; clear hp
  have HOK := Lib.hid hok; clear hok
  cases hq : l.any p with
  | false =>
    have hi : idxI p l = -1 := by unfold idxI; rw [hq]; rfl
    have hf : l.filter (fun x => !p x) = l := by
      rw [List.filter_eq_self]
      intro a ha
      have := List.any_eq_false.1 hq a ha
      simpa using this
    rw [hi] at hct
    rw [hf, hn]
    have HC := Lib.hid hct
    have HO := Lib.hid h
    clear hct h hf hi hq eg hn
    go_enter Try.func52, Try.ntmps52
    go_wp2_with fail
    refine HC.out.mono ?_
    rintro e w1 ⟨rfl, hb1⟩
    go_wp2_with fail
    go_ret
    exact ⟨rfl, HO.out.fresh hb1, grownBy_below _ hb1⟩
  | true =>
    have hi : idxI p l = (l.findIdx p : Int) := by unfold idxI; rw [if_pos hq]
    have hlt : l.findIdx p < l.length := by rw [List.findIdx_lt_length]; exact List.any_eq_true.1 hq
    have hst : DelSt p l l (l.findIdx p) (l.findIdx p + 1) := ⟨rfl, (findIdx_take_filter p l hq).symm, rfl, by omega, by omega⟩
    obtain ⟨i0, hi0⟩ : ∃ i, l.findIdx p = i := ⟨_, rfl⟩
    rw [hi0] at hi hlt hst
    rw [hi] at hct
    obtain ⟨b, rfl, hb1, hb2⟩ := h.some_ (by omega)
    have HC := Lib.hid hct
    have HO := Lib.hid h
    have HS := Lib.hid hst
    have hi1 : i0 < n := by omega
    have HN := Lib.hid hn
    have HE := Lib.hid eg
    have hnc : n ≤ c := by omega
    clear hct h hi hq hst hi0 hlt hn hcap
    go_enter Try.func52, Try.ntmps52
    go_wp2_with fail
    refine HC.out.mono ?_
    rintro e w1 ⟨rfl, hbw1⟩
    have hs1 := hbw1.size
    go_wp2_with fail
    go_loopg [5, 6] (n - (i0 + 1)) (fun gk iv jv wr => ∃ (i j : Nat) (cur : List (Int×Int)), i < j ∧ j ≤ n ∧ gk = n - j ∧ iv = .int .i64 i ∧ jv = .int .i64 j ∧ Hid (DelSt p l cur i j ∧ Own wr base 62 (some ⟨b, 0, none⟩) c cur) ∧ w.grownBy wr (some b))
    case atStart => exact ⟨i0, i0 + 1, l, by omega, by omega, rfl, rfl, by go_num, ⟨HS.out, HO.out.fresh hbw1⟩, grownBy_below _ hbw1⟩
    case round =>
      obtain ⟨i, j, cur, hij, hj, rfl, rfl, rfl, hkeep, hgr⟩ := hrel
      have hsz := hgr.size
      by_cases hlt : j < n
      · obtain ⟨⟨x, y⟩, hx⟩ : ∃ x, l[j]? = some x := ⟨_, List.getElem?_eq_getElem (by have := HN.out; omega)⟩
        have hcur := hkeep.out.1.get hx
        have c0 := hkeep.out.2.cells_ (g := b) (o := 0) rfl (j * 2) (.int .i64 x) (by have := flat_get _ j 0 _ hcur (by decide); simpa [Flat.sz, Flat.cells] using this)
        have c1 := hkeep.out.2.cells_ (g := b) (o := 0) rfl (j * 2 + 1) (.int .i64 y) (by have := flat_get _ j 1 _ hcur (by decide); simpa [Flat.sz, Flat.cells] using this)
        rw [Nat.zero_add] at c0 c1
        have hxm := List.mem_of_getElem? hx
        have hcall := fun W hg => HP.out W (x, y) hxm (HOK.out _ hxm) hg
        have HX := Lib.hid hx
        clear hx hcur hxm
        have hbw : b < wr.heap.size := by omega
        have hj0 : (0 : Int) ≤ (j : Int) := by omega
        have hj1 : (j : Int) < (n : Int) := by omega
        have HCALL := Lib.hid hcall; clear hcall
        have hgr2 := hgr.trans (World.grownBy_alloc wr (.cells #[.int .i64 x, .int .i64 y] 62) (some b))
        have HB := Lib.hid (And.intro (Blk.new wr 62 #[.int .i64 x, .int .i64 y]) (hkeep.out.2.alloc (.cells #[.int .i64 x, .int .i64 y] 62)))
        cases hq : p (x, y) with
        | true =>
          rw [hq] at HCALL
          have HQ := Lib.hid hq; clear hq
          go_wp2_with (go_at_fn g; refine Calls.mono (HCALL.out _ hgr2) ?_; rintro e w2 ⟨rfl, hb2⟩)
          go_roundg (n - (j + 1))
          case measure => omega
          case rel => exact ⟨i, j + 1, cur, by omega, by omega, rfl, rfl, by go_num, ⟨hkeep.out.1.skip HX.out HQ.out, HB.out.2.fresh hb2⟩, hgr2.trans (grownBy_below _ hb2)⟩
        | false =>
          rw [hq] at HCALL
          have HQ := Lib.hid hq; clear hq
          have hi0 : (0 : Int) ≤ (i : Int) := by omega
          have hi1 : (i : Int) < (n : Int) := by omega
          obtain ⟨old, hold⟩ : ∃ u, cur[i]? = some u := ⟨_, List.getElem?_eq_getElem (by have := hkeep.out.1.1; have := HN.out; omega)⟩
          have HOLD := Lib.hid hold; clear hold
          go_wp2_with (go_at_fn g; refine Calls.mono (HCALL.out _ hgr2) ?_; rintro e w2 ⟨rfl, hb2⟩; have hs2 := hb2.size; simp only [World.size_alloc] at hs2; have HB2 := Lib.hid (And.intro (HB.out.1.fresh hb2) (HB.out.2.fresh hb2)); have d0 := HB2.out.1.cell 0 (v := .int .i64 x) rfl; have d1 := HB2.out.1.cell 1 (v := .int .i64 y) rfl; have z0 := HB2.out.2.frozen (g := b) rfl (i * 2); have z1 := HB2.out.2.frozen (g := b) rfl (i * 2 + 1); have e0 := HB2.out.2.cells_ (g := b) (o := 0) rfl (i * 2) (.int .i64 old.1) (by have := flat_get _ i 0 _ HOLD.out (by decide); simpa [Flat.sz, Flat.cells] using this); have e1 := HB2.out.2.cells_ (g := b) (o := 0) rfl (i * 2 + 1) (.int .i64 old.2) (by have := flat_get _ i 1 _ HOLD.out (by decide); simpa [Flat.sz, Flat.cells] using this); rw [Nat.zero_add] at e0 e1)
          go_roundg (n - (j + 1))
          case measure => omega
          case rel => exact ⟨i + 1, j + 1, cur.set i (x, y), by omega, by omega, rfl, by go_num, by go_num, ⟨hkeep.out.1.keep HX.out HQ.out, Own.set_two rfl (fun _ => rfl) HB2.out.2 HOLD.out⟩, ((hgr2.trans (grownBy_below _ hb2)).trans (grownBy_setCell _ _ _ _)).trans (grownBy_setCell _ _ _ _)⟩
      · obtain rfl : j = n := by omega
        obtain ⟨k1, k2⟩ := hkeep.out
        have hfin : cur.take i = l.filter (fun x => !p x) := by rw [k1.2.1, List.take_of_length_le (by have := HN.out; omega)]
        have hlen : (l.filter (fun x => !p x)).length = i := by rw [← hfin, List.length_take]; have := k1.1; have := HN.out; omega
        have hcl : cur.length = j := by have := k1.1; have := HN.out; omega
        have HF := Lib.hid (And.intro hfin (And.intro hcl hlen))
        have HK := Lib.hid k2
        have hci : ¬ c = i := by omega
        have hcj : i ≤ c := by omega
        have hij2 : i ≤ j := by omega
        clear k1 k2 hfin hlen hcl hkeep
        obtain ⟨w3, hrun, hown3, hgr3⟩ := run_clear_own (P := Try.prog) HK.out i (by have := HF.out.2.1; omega) 56 0 Try.underlying56 _ zeroRMove rfl rfl (some ⟨b, i * 2, none⟩) (j - i) (c - i) (by omega) (fun _ => rfl)
        have HO3 := Lib.hid hown3; clear hown3
        go_wp2_with fail
        go_ret
        exact ⟨ret_slice HF.out.2.2.symm, by rw [← HF.out.1]; exact HO3.out, hgr.trans hgr3⟩


set_option maxHeartbeats 800000 in
set_option maxRecDepth 100000 in
theorem deleteRMove_any (c base b i : Nat) (l : List (Int×Int)) (w : World) (h : Own w base 62 (some ⟨b, 0, none⟩) c l) (hi : i < l.length) :
    Calls Try.prog 56 #[.slice (some ⟨b, 0, none⟩) l.length c, .int .i64 i, .int .i64 (i + 1)] w fun e w' => e = .returned (.slice (some ⟨b, 0, none⟩) (l.length - 1) c) ∧ Own w' base 62 (some ⟨b, 0, none⟩) c (l.eraseIdx i) ∧ w.grownBy w' (some b) := by
  obtain ⟨i0, hi0, hz0, hz1, hz2⟩ := info_parts infoRMove
  have hcap := h.le_cap
  have hmax : c ≤ 9223372036854775807 := by have := hcap.2; unfold maxLen at this; omega
  obtain ⟨n, hn⟩ : ∃ n, l.length = n := ⟨_, rfl⟩
  rw [hn] at hi hcap ⊢
  have hnc := hcap.1
  clear hcap
  obtain ⟨ad, hA, hsrc⟩ : ∃ ad : Addr, (if c = i + 1 then some (⟨b, 0, none⟩ : Addr) else some ⟨b, (i + 1) * 2, none⟩) = some ad ∧ Hid (∀ j u, (flat (l.drop (i + 1)))[j]? = some u → w.drew.cell? (ad.add j) = some u) := by
    have hfl : ∀ j u, (flat (l.drop (i + 1)))[j]? = some u → w.cell? ⟨b, (i + 1) * 2 + j, none⟩ = some u := by
      intro j u hu
      have hj := (List.getElem?_eq_some_iff.1 hu).1
      have := h.cells_ (g := b) (o := 0) rfl ((i + 1) * 2 + j) u (by
        have e := flat_append (l.take (i + 1)) (l.drop (i + 1))
        rw [List.take_append_drop] at e
        have hl : (flat (l.take (i + 1))).length = (i + 1) * 2 := by rw [flat_length, List.length_take, Nat.min_eq_left (by omega)]; rfl
        rw [e, List.getElem?_append_right (by omega), hl, show (i + 1) * 2 + j - (i + 1) * 2 = j by omega]
        exact hu)
      rw [Nat.zero_add] at this
      exact this
    by_cases hc : c = i + 1
    · refine ⟨_, if_pos hc, fun j u hu => ?_⟩
      have : l.drop (i + 1) = [] := List.drop_eq_nil_of_le (by omega)
      rw [this] at hu
      simp [flat] at hu
    · refine ⟨_, if_neg hc, fun j u hu => ?_⟩
      rw [add_mk]
      exact hfl j u hu
  have HI := Lib.hid (And.intro hi0 (And.intro hz1 hz2))
  have HT := Lib.hid ((h.take_ i (by omega)).drew)
  have HN := Lib.hid hn
  have hdl : (l.drop (i + 1)).length = n - (i + 1) := by rw [List.length_drop, hn]
  have HD := Lib.hid hdl
  have hne : ((i : Int) == (i : Int) + 1) = false := by rw [beq_eq_false_iff_ne]; omega
  have hi1 : i + 1 ≤ n := by omega
  have hic : i ≤ c := by omega
  have hic2 : i + 1 ≤ c := by omega
  have q1 : (0 : Int) ≤ (i : Int) + 1 := by omega
  have q2 : (i : Int) + 1 ≤ (n : Int) := by omega
  clear h hdl hn hi0 hz0 hz1 hz2
  go_enter Try.func56, Try.ntmps56
  go_wp2_with fail
  go_region_law ((refine step_app_fits (α := Int×Int) (by rfl) (.tmp 22) (.tmp 25) _ (by rfl) i0 Try.underlying56 HI.out.1 HI.out.2.1 pair_one (n := i) (c := c) (by rfl) (by rw [List.length_take]; have := HN.out; omega) HT.out (ad := ad) (m := n - (i + 1)) (d := c - (i + 1)) (r := l.drop (i + 1)) (by simp [Act.eval, Act.put, hA]) HD.out hsrc.out (nm := n - 1) (by omega) (by omega) ?_; intro w1 hown1 hgr1))
  have hel : l.take i ++ l.drop (i + 1) = l.eraseIdx i := (List.eraseIdx_eq_take_drop_succ l i).symm
  rw [hel] at hown1
  have hell : (l.eraseIdx i).length = n - 1 := by rw [List.length_eraseIdx_of_lt (by have := HN.out; omega), HN.out]
  obtain ⟨w3, hrun, hown3, hgr3⟩ := run_clear_own (P := Try.prog) hown1 (n - 1) (by omega) 56 0 Try.underlying56 _ zeroRMove rfl rfl (some ⟨b, (n - 1) * 2, none⟩) (n - (n - 1)) (c - (n - 1)) (by omega) (fun _ => rfl)
  have hcn : ¬ c = n - 1 := by omega
  have hcn2 : n - 1 ≤ c := by omega
  have hcn3 : n - 1 ≤ n := by omega
  have hgr := (grownBy_undrew hgr1).trans hgr3
  have HO3 := Lib.hid hown3; clear hown3 hown1 hgr1 hgr3
  have HE := Lib.hid (And.intro hel hell); clear hel hell
  go_wp2
  go_ret
  exact ⟨rfl, by have := HO3.out; rw [List.take_of_length_le (by have := HE.out.2; omega)] at this; exact this, hgr⟩

end Go.Proofs.Ytljdnadejmkaeaa

/- The reference: what is wrong with a list of moves. -/
namespace Go.Proofs.Ytljdnadejmkaeaa
open Go.RowKit

theorem hasInt_any (A : Option Addr) (c B n : Nat) (l : List Int) (x : Int) (w : World) (hn : l.length = n) (h : At w B A l) (hl : n ≤ 9223372036854775807) :
    Calls Try.prog 57 #[.slice A n c, .int .i64 x] w fun e w' => e = .returned (.bool (decide (x ∈ l))) ∧ w = w' := by
  have H := Lib.hid h; clear h
  have HN := Lib.hid hn; clear hn
  go_enter Try.func57, Try.ntmps57
  go_wp2
  go_loop [9] (fun i => ∃ k : Nat, k ≤ n ∧ i = .int .i64 k ∧ Hid (x ∉ l.take k)) (fun i => n - (intOf i).toNat)
  case atStart => exact ⟨0, Nat.zero_le _, rfl, by simp [Hid]⟩
  case round =>
    obtain ⟨k, hk, rfl, hno⟩ := hrel
    by_cases hlt : k < n
    · obtain ⟨b, o, y, rfl, hb, hx, hok, h0⟩ := H.out.int_ (by have := HN.out; omega : k < l.length)
      have HX := Lib.hid hx; clear hx hok
      have hlt2 : (k : Int) < (n : Int) := by omega
      by_cases hxy : x = y
      · subst hxy
        go_wp2
        go_ret
        exact ⟨ret_bool (by rw [decide_eq_true (List.mem_of_getElem? HX.out)]), rfl⟩
      · have hxy2 : (x == y) = false := by simpa using hxy
        have HXY := Lib.hid hxy; clear hxy
        go_wp2
        go_round
        case rel => exact ⟨k + 1, by omega, by go_num, by unfold Hid; rw [take_snoc _ _ _ HX.out]; simp only [List.mem_append, List.mem_singleton, not_or]; exact ⟨hno.out, HXY.out⟩⟩
        case measure => simp [intOf]; omega
    · go_wp2
      go_ret
      exact ⟨ret_bool (by have := hno.out; rw [List.take_of_length_le (by have := HN.out; omega)] at this; simp [this]), rfl⟩

theorem any_mem (l : List (Int × Int)) (x : Int) : (l.any fun y => decide (y.1 = x)) = decide (x ∈ l.map (·.1)) := by
  rw [Bool.eq_iff_iff, List.any_eq_true]
  simp only [decide_eq_true_eq, List.mem_map]

set_option maxHeartbeats 800000 in
set_option maxRecDepth 100000 in
theorem mfault_any (A : Option Addr) (c B : Nat) (l : List (Int × Int)) (spare : Int) (w : World) (h : At w B A l) (hB : B ≤ w.heap.size) (hl : l.length ≤ 9223372036854775807) :
    Calls Try.prog 22 #[.slice A l.length c, .int .i64 spare] w fun e w' => e = .returned (.int .i64 (mvErr l spare)) ∧ Below w.heap.size w w' := by
  by_cases h60 : 60 < l.length
  · have he : mvErr l spare = 2 := by unfold mvErr; rw [if_pos h60]
    rw [he]; clear he h
    go_enter Try.func22, Try.ntmps22
    go_wp2
    go_ret
    exact ⟨rfl, Below.refl _ _⟩
  obtain ⟨i0, hi, hz0, hz1, hz2⟩ := info_parts infoInt
  have H := Lib.hid h; clear h
  go_enter Try.func22, Try.ntmps22
  go_wp2
  go_loopw [5, 15] (fun tv i wr => ∃ (k : Nat) (A1 : Option Addr) (c1 : Nat), k ≤ l.length ∧ i = .int .i64 k ∧ tv = .slice A1 k c1 ∧ Hid (noTwice (l.take k) = true ∧ Own wr w.heap.size 3 A1 c1 ((l.take k).map (·.1))) ∧ Below w.heap.size w wr) (fun _ i _ => l.length - (intOf i).toNat)
  case atStart => exact ⟨0, none, 0, Nat.zero_le _, rfl, rfl, ⟨by simp [noTwice], Own.nil_⟩, Below.refl _ _⟩
  case round =>
    obtain ⟨k, A1, c1, hk, rfl, rfl, hkeep, hbl⟩ := hrel
    have hsz := hbl.size
    by_cases hlt : k < l.length
    · have hat := H.out.below (hbl.mono hB)
      obtain ⟨b, o, x, y, rfl, hb, hx, hox, -, g0, g1⟩ := hat.pair hlt
      have HX := Lib.hid hx; clear hx
      have hle : ((l.take k).map (·.1)).length = k := by simp; omega
      have hokT : ∀ y ∈ (l.take k).map (·.1), Flat.ok y := by
        intro y hy
        obtain ⟨z, hz, rfl⟩ := List.mem_map.1 hy
        exact (hat.ok_ z (List.mem_of_mem_take hz)).1
      have HA := Lib.hid (And.intro hat (And.intro hle (And.intro hokT hox))); clear hat hle hokT hox
      go_wp2_with fail
      have ho1 := hkeep.out.2.alloc (.cells #[.int .i64 x, .int .i64 y] 62)
      have hct := hasInt_any A1 c1 _ k ((l.take k).map (·.1)) x _ HA.out.2.1 (ho1.at_ HA.out.2.2.1) (by omega)
      rw [← any_mem] at hct
      cases hq : (l.take k).any (fun z => decide (z.1 = x)) with
      | true =>
        rw [hq] at hct
        have he : mvErr l spare = 6 := by unfold mvErr; rw [if_neg h60, if_pos (noTwice_stop l k (x, y) HX.out hq)]
        have HE := Lib.hid he; clear he hq ho1
        refine hct.mono ?_
        rintro e w' ⟨rfl, rfl⟩
        clear hct
        go_wp2_with fail
        go_ret
        exact ⟨ret_i64 HE.out.symm, hbl.alloc hsz _⟩
      | false =>
        rw [hq] at hct
        have HQ := Lib.hid (And.intro hq ho1); clear hq ho1
        refine hct.mono ?_
        rintro e w' ⟨rfl, rfl⟩
        clear hct
        go_wp2_with (at_builtin; go_must (refine wpList_app (α := Int) (n := k) (m := 1) (B := wr.heap.size + 1 + 1) (r := [x]) rfl (.tmp 23) (.tmp 26) _ rfl w.heap.size 3 i0 _ 8 Try.underlying40 hi hz0 hz1 hz2 rfl (by decide) int_one (by rfl) HA.out.2.1 (HQ.out.2.alloc _) (by rfl) ?_ rfl (by omega) (by simp only [maxLen]; omega) (by simp; omega) ?_))
        · have := At.built (wr.alloc (.cells #[.int .i64 x, .int .i64 y] 62)) #[.int .i64 x] 3 [x] rfl (by intro z hz; simp at hz; subst hz; exact HA.out.2.2.2)
          simpa using this
        intro A2 c2 w2 hown2 hgr2 hat2
        have hbl2 : Below w.heap.size w w2 := ((hbl.alloc hsz _).alloc (by simp; omega) _).grown hgr2 (by simp; omega) (fun g hg => (HQ.out.2.lt g hg).1)
        have HO2 := Lib.hid hown2; clear hown2
        go_wp2_with fail
        go_roundw
        case rel => exact ⟨k + 1, A2, c2, by omega, by go_num, rfl, ⟨noTwice_snoc l k _ HX.out hkeep.out.1 HQ.out.1, by rw [take_snoc _ _ _ HX.out, List.map_append, List.map_take]; exact HO2.out⟩, hbl2⟩
        case measure => simp [intOf]; omega
    · have hk2 := hkeep.out.1
      rw [List.take_of_length_le (by omega)] at hk2
      have HN := Lib.hid hk2; clear hk2 hkeep
      go_wp2_with fail
      go_loopw [31] (fun i wr => ∃ k : Nat, k ≤ l.length ∧ i = .int .i64 k ∧ Hid ((l.take k).any (fun m => decide (m.1 = spare) || decide (m.2 = spare)) = false) ∧ Below w.heap.size w wr) (fun i _ => l.length - (intOf i).toNat)
      case atStart => exact ⟨0, Nat.zero_le _, rfl, by simp [Hid], hbl⟩
      case round =>
        obtain ⟨j, hj, rfl, hno, hbl2⟩ := hrel
        have hsz2 := hbl2.size
        by_cases hjt : j < l.length
        · obtain ⟨b, o, x, y, rfl, hb, hx, -, -, g0, g1⟩ := (H.out.below (hbl2.mono hB)).pair hjt
          have HX := Lib.hid hx; clear hx
          cases hq : (decide (x = spare) || decide (y = spare)) with
          | true =>
            have hany : l.any (fun m => decide (m.1 = spare) || decide (m.2 = spare)) = true := List.any_eq_true.2 ⟨(x, y), List.mem_of_getElem? HX.out, hq⟩
            have he : mvErr l spare = 1 := by unfold mvErr; rw [if_neg h60, if_neg (by simp [HN.out]), if_pos hany]
            have HE := Lib.hid he; clear he hany
            by_cases h1 : x = spare
            · have h1' : (x == spare) = true := by simpa using h1
              clear hq h1
              go_wp2_with fail
              go_ret
              exact ⟨ret_i64 HE.out.symm, hbl2.alloc hsz2 _⟩
            · have h1' : (x == spare) = false := by simpa using h1
              have h2' : (y == spare) = true := by simp [h1] at hq; simpa using hq
              clear hq h1
              go_wp2_with fail
              go_ret
              exact ⟨ret_i64 HE.out.symm, hbl2.alloc hsz2 _⟩
          | false =>
            have h1' : (x == spare) = false := by simp at hq; simpa using hq.1
            have h2' : (y == spare) = false := by simp at hq; simpa using hq.2
            have HQ := Lib.hid hq; clear hq
            go_wp2_with fail
            go_roundw
            case rel => exact ⟨j + 1, by omega, by go_num, by unfold Hid; rw [any_snoc _ _ _ _ HX.out, hno.out, Bool.false_or]; exact HQ.out, hbl2.alloc hsz2 _⟩
            case measure => simp [intOf]; omega
        · have hno2 := hno.out
          rw [List.take_of_length_le (by omega)] at hno2
          have he : mvErr l spare = 0 := by unfold mvErr; rw [if_neg h60, if_neg (by simp [HN.out]), if_neg (by simp [hno2])]
          have HE := Lib.hid he; clear he hno2
          go_wp2_with fail
          go_ret
          exact ⟨ret_i64 HE.out.symm, hbl2⟩

end Go.Proofs.Ytljdnadejmkaeaa

/- The reference's words on instructions: what is asked, whether there is a value. -/
namespace Go.Proofs.Ytljdnadejmkaeaa
open Go.RowKit

theorem rTells_any (op : Int) (w : World) : Calls Try.prog 108 #[.int .i64 op] w fun e w' => e = .returned (.bool (Liv.tells op)) ∧ Below w.heap.size w w' := by
  have hd : decide (op ∈ ([1, 2, 3, 7, 8, 10, 13, 15, 16, 18] : List Int)) = Liv.tells op := by unfold Liv.tells; simp
  have HD := Lib.hid hd; clear hd
  go_enter Try.func108, Try.ntmps108
  go_wp2_with fail
  have hat := At.built w #[.int .i64 1, .int .i64 2, .int .i64 3, .int .i64 7, .int .i64 8, .int .i64 10, .int .i64 13, .int .i64 15, .int .i64 16, .int .i64 18] 3 ([1, 2, 3, 7, 8, 10, 13, 15, 16, 18] : List Int) rfl (by intro z hz; simp at hz; rcases hz with rfl | rfl | rfl | rfl | rfl | rfl | rfl | rfl | rfl | rfl <;> (unfold Flat.ok; exact ⟨by decide, by decide⟩))
  refine (hasInt_any (some ⟨w.heap.size, 0, none⟩) 10 _ 10 _ op _ rfl hat (by decide)).mono ?_
  rintro e w1 ⟨rfl, rfl⟩
  rw [HD.out]
  clear hat
  go_wp2_with fail
  go_ret
  exact ⟨rfl, (Below.refl _ _).alloc (Nat.le_refl _) _⟩

theorem own_lit {α : Type} [Flat α] (w : World) (base g n : Nat) (e : TypeId) (cs : Array Value) (l : List α) (hg : g = w.heap.size) (hn : l.length = n) (hb : base ≤ w.heap.size) (hcs : cs.toList = flat l) (hm : n ≤ maxLen) : Own (w.alloc (.cells cs e)) base e (some ⟨g, 0, none⟩) n l := by
  subst hg hn
  have hs : cs.size = l.length * Flat.sz α := by rw [← Array.length_toList, hcs, flat_length]
  exact ⟨flat_length _, .inr ⟨w.heap.size, l.length, cs, rfl, hb, heap_alloc_new w _, Nat.le_refl _, hm, hs, by rw [hcs, List.take_of_length_le (by rw [flat_length]; exact Nat.le_refl _)]⟩⟩

def AskPost (op a b c : Int) (w : World) (e : Ending) (w' : World) : Prop :=
  ∃ A d, e = .returned (.slice A (([a, b, c] : List Int).take (Liv.asksN op)).length d) ∧ Own w' w.heap.size 3 A d (([a, b, c] : List Int).take (Liv.asksN op)) ∧ Below w.heap.size w w'

set_option maxRecDepth 100000 in
theorem rAsks_4 (a b c n ex k1 k2 : Int) (w : World) : Calls Try.prog 62 #[.agg #[.int .i64 4, .int .i64 a, .int .i64 b, .int .i64 c, .int .i64 n, .int .i64 ex, .int .i64 k1, .int .i64 k2]] w (AskPost 4 a b c w) := by
  go_enter Try.func62, Try.ntmps62
  go_wp2_with fail
  go_ret
  unfold AskPost
  rw [show ([a, b, c] : List Int).take (Liv.asksN 4) = [a] from rfl]
  exact ⟨some ⟨w.heap.size + 1, 0, none⟩, 1, rfl, own_lit (w.alloc _) w.heap.size (w.heap.size + 1) 1 3 (List.map (fun z : Int => Value.int .i64 z) [a]).toArray [a] (by simp) rfl (by simp) rfl (by simp [maxLen]), ((Below.refl _ _).alloc (Nat.le_refl _) _).alloc (by simp) _⟩
set_option maxRecDepth 100000 in
theorem rAsks_5 (a b c n ex k1 k2 : Int) (w : World) : Calls Try.prog 62 #[.agg #[.int .i64 5, .int .i64 a, .int .i64 b, .int .i64 c, .int .i64 n, .int .i64 ex, .int .i64 k1, .int .i64 k2]] w (AskPost 5 a b c w) := by
  go_enter Try.func62, Try.ntmps62
  go_wp2_with fail
  go_ret
  unfold AskPost
  rw [show ([a, b, c] : List Int).take (Liv.asksN 5) = [a] from rfl]
  exact ⟨some ⟨w.heap.size + 1, 0, none⟩, 1, rfl, own_lit (w.alloc _) w.heap.size (w.heap.size + 1) 1 3 (List.map (fun z : Int => Value.int .i64 z) [a]).toArray [a] (by simp) rfl (by simp) rfl (by simp [maxLen]), ((Below.refl _ _).alloc (Nat.le_refl _) _).alloc (by simp) _⟩
set_option maxRecDepth 100000 in
theorem rAsks_6 (a b c n ex k1 k2 : Int) (w : World) : Calls Try.prog 62 #[.agg #[.int .i64 6, .int .i64 a, .int .i64 b, .int .i64 c, .int .i64 n, .int .i64 ex, .int .i64 k1, .int .i64 k2]] w (AskPost 6 a b c w) := by
  go_enter Try.func62, Try.ntmps62
  go_wp2_with fail
  go_ret
  unfold AskPost
  rw [show ([a, b, c] : List Int).take (Liv.asksN 6) = [a] from rfl]
  exact ⟨some ⟨w.heap.size + 1, 0, none⟩, 1, rfl, own_lit (w.alloc _) w.heap.size (w.heap.size + 1) 1 3 (List.map (fun z : Int => Value.int .i64 z) [a]).toArray [a] (by simp) rfl (by simp) rfl (by simp [maxLen]), ((Below.refl _ _).alloc (Nat.le_refl _) _).alloc (by simp) _⟩
set_option maxRecDepth 100000 in
theorem rAsks_8 (a b c n ex k1 k2 : Int) (w : World) : Calls Try.prog 62 #[.agg #[.int .i64 8, .int .i64 a, .int .i64 b, .int .i64 c, .int .i64 n, .int .i64 ex, .int .i64 k1, .int .i64 k2]] w (AskPost 8 a b c w) := by
  go_enter Try.func62, Try.ntmps62
  go_wp2_with fail
  go_ret
  unfold AskPost
  rw [show ([a, b, c] : List Int).take (Liv.asksN 8) = [a] from rfl]
  exact ⟨some ⟨w.heap.size + 1, 0, none⟩, 1, rfl, own_lit (w.alloc _) w.heap.size (w.heap.size + 1) 1 3 (List.map (fun z : Int => Value.int .i64 z) [a]).toArray [a] (by simp) rfl (by simp) rfl (by simp [maxLen]), ((Below.refl _ _).alloc (Nat.le_refl _) _).alloc (by simp) _⟩
set_option maxRecDepth 100000 in
theorem rAsks_9 (a b c n ex k1 k2 : Int) (w : World) : Calls Try.prog 62 #[.agg #[.int .i64 9, .int .i64 a, .int .i64 b, .int .i64 c, .int .i64 n, .int .i64 ex, .int .i64 k1, .int .i64 k2]] w (AskPost 9 a b c w) := by
  go_enter Try.func62, Try.ntmps62
  go_wp2_with fail
  go_ret
  unfold AskPost
  rw [show ([a, b, c] : List Int).take (Liv.asksN 9) = [a] from rfl]
  exact ⟨some ⟨w.heap.size + 1, 0, none⟩, 1, rfl, own_lit (w.alloc _) w.heap.size (w.heap.size + 1) 1 3 (List.map (fun z : Int => Value.int .i64 z) [a]).toArray [a] (by simp) rfl (by simp) rfl (by simp [maxLen]), ((Below.refl _ _).alloc (Nat.le_refl _) _).alloc (by simp) _⟩
set_option maxRecDepth 100000 in
theorem rAsks_10 (a b c n ex k1 k2 : Int) (w : World) : Calls Try.prog 62 #[.agg #[.int .i64 10, .int .i64 a, .int .i64 b, .int .i64 c, .int .i64 n, .int .i64 ex, .int .i64 k1, .int .i64 k2]] w (AskPost 10 a b c w) := by
  go_enter Try.func62, Try.ntmps62
  go_wp2_with fail
  go_ret
  unfold AskPost
  rw [show ([a, b, c] : List Int).take (Liv.asksN 10) = [a] from rfl]
  exact ⟨some ⟨w.heap.size + 1, 0, none⟩, 1, rfl, own_lit (w.alloc _) w.heap.size (w.heap.size + 1) 1 3 (List.map (fun z : Int => Value.int .i64 z) [a]).toArray [a] (by simp) rfl (by simp) rfl (by simp [maxLen]), ((Below.refl _ _).alloc (Nat.le_refl _) _).alloc (by simp) _⟩
set_option maxRecDepth 100000 in
theorem rAsks_15 (a b c n ex k1 k2 : Int) (w : World) : Calls Try.prog 62 #[.agg #[.int .i64 15, .int .i64 a, .int .i64 b, .int .i64 c, .int .i64 n, .int .i64 ex, .int .i64 k1, .int .i64 k2]] w (AskPost 15 a b c w) := by
  go_enter Try.func62, Try.ntmps62
  go_wp2_with fail
  go_ret
  unfold AskPost
  rw [show ([a, b, c] : List Int).take (Liv.asksN 15) = [a] from rfl]
  exact ⟨some ⟨w.heap.size + 1, 0, none⟩, 1, rfl, own_lit (w.alloc _) w.heap.size (w.heap.size + 1) 1 3 (List.map (fun z : Int => Value.int .i64 z) [a]).toArray [a] (by simp) rfl (by simp) rfl (by simp [maxLen]), ((Below.refl _ _).alloc (Nat.le_refl _) _).alloc (by simp) _⟩
set_option maxRecDepth 100000 in
theorem rAsks_7 (a b c n ex k1 k2 : Int) (w : World) : Calls Try.prog 62 #[.agg #[.int .i64 7, .int .i64 a, .int .i64 b, .int .i64 c, .int .i64 n, .int .i64 ex, .int .i64 k1, .int .i64 k2]] w (AskPost 7 a b c w) := by
  go_enter Try.func62, Try.ntmps62
  go_wp2_with fail
  go_ret
  unfold AskPost
  rw [show ([a, b, c] : List Int).take (Liv.asksN 7) = [a,b] from rfl]
  exact ⟨some ⟨w.heap.size + 1, 0, none⟩, 2, rfl, own_lit (w.alloc _) w.heap.size (w.heap.size + 1) 2 3 (List.map (fun z : Int => Value.int .i64 z) [a,b]).toArray [a,b] (by simp) rfl (by simp) rfl (by simp [maxLen]), ((Below.refl _ _).alloc (Nat.le_refl _) _).alloc (by simp) _⟩
set_option maxRecDepth 100000 in
theorem rAsks_11 (a b c n ex k1 k2 : Int) (w : World) : Calls Try.prog 62 #[.agg #[.int .i64 11, .int .i64 a, .int .i64 b, .int .i64 c, .int .i64 n, .int .i64 ex, .int .i64 k1, .int .i64 k2]] w (AskPost 11 a b c w) := by
  go_enter Try.func62, Try.ntmps62
  go_wp2_with fail
  go_ret
  unfold AskPost
  rw [show ([a, b, c] : List Int).take (Liv.asksN 11) = [a,b] from rfl]
  exact ⟨some ⟨w.heap.size + 1, 0, none⟩, 2, rfl, own_lit (w.alloc _) w.heap.size (w.heap.size + 1) 2 3 (List.map (fun z : Int => Value.int .i64 z) [a,b]).toArray [a,b] (by simp) rfl (by simp) rfl (by simp [maxLen]), ((Below.refl _ _).alloc (Nat.le_refl _) _).alloc (by simp) _⟩
set_option maxRecDepth 100000 in
theorem rAsks_12 (a b c n ex k1 k2 : Int) (w : World) : Calls Try.prog 62 #[.agg #[.int .i64 12, .int .i64 a, .int .i64 b, .int .i64 c, .int .i64 n, .int .i64 ex, .int .i64 k1, .int .i64 k2]] w (AskPost 12 a b c w) := by
  go_enter Try.func62, Try.ntmps62
  go_wp2_with fail
  go_ret
  unfold AskPost
  rw [show ([a, b, c] : List Int).take (Liv.asksN 12) = [a,b] from rfl]
  exact ⟨some ⟨w.heap.size + 1, 0, none⟩, 2, rfl, own_lit (w.alloc _) w.heap.size (w.heap.size + 1) 2 3 (List.map (fun z : Int => Value.int .i64 z) [a,b]).toArray [a,b] (by simp) rfl (by simp) rfl (by simp [maxLen]), ((Below.refl _ _).alloc (Nat.le_refl _) _).alloc (by simp) _⟩
set_option maxRecDepth 100000 in
theorem rAsks_13 (a b c n ex k1 k2 : Int) (w : World) : Calls Try.prog 62 #[.agg #[.int .i64 13, .int .i64 a, .int .i64 b, .int .i64 c, .int .i64 n, .int .i64 ex, .int .i64 k1, .int .i64 k2]] w (AskPost 13 a b c w) := by
  go_enter Try.func62, Try.ntmps62
  go_wp2_with fail
  go_ret
  unfold AskPost
  rw [show ([a, b, c] : List Int).take (Liv.asksN 13) = [a,b] from rfl]
  exact ⟨some ⟨w.heap.size + 1, 0, none⟩, 2, rfl, own_lit (w.alloc _) w.heap.size (w.heap.size + 1) 2 3 (List.map (fun z : Int => Value.int .i64 z) [a,b]).toArray [a,b] (by simp) rfl (by simp) rfl (by simp [maxLen]), ((Below.refl _ _).alloc (Nat.le_refl _) _).alloc (by simp) _⟩
set_option maxRecDepth 100000 in
theorem rAsks_17 (a b c n ex k1 k2 : Int) (w : World) : Calls Try.prog 62 #[.agg #[.int .i64 17, .int .i64 a, .int .i64 b, .int .i64 c, .int .i64 n, .int .i64 ex, .int .i64 k1, .int .i64 k2]] w (AskPost 17 a b c w) := by
  go_enter Try.func62, Try.ntmps62
  go_wp2_with fail
  go_ret
  unfold AskPost
  rw [show ([a, b, c] : List Int).take (Liv.asksN 17) = [a,b] from rfl]
  exact ⟨some ⟨w.heap.size + 1, 0, none⟩, 2, rfl, own_lit (w.alloc _) w.heap.size (w.heap.size + 1) 2 3 (List.map (fun z : Int => Value.int .i64 z) [a,b]).toArray [a,b] (by simp) rfl (by simp) rfl (by simp [maxLen]), ((Below.refl _ _).alloc (Nat.le_refl _) _).alloc (by simp) _⟩
set_option maxRecDepth 100000 in
theorem rAsks_14 (a b c n ex k1 k2 : Int) (w : World) : Calls Try.prog 62 #[.agg #[.int .i64 14, .int .i64 a, .int .i64 b, .int .i64 c, .int .i64 n, .int .i64 ex, .int .i64 k1, .int .i64 k2]] w (AskPost 14 a b c w) := by
  go_enter Try.func62, Try.ntmps62
  go_wp2_with fail
  go_ret
  unfold AskPost
  rw [show ([a, b, c] : List Int).take (Liv.asksN 14) = [a,b,c] from rfl]
  exact ⟨some ⟨w.heap.size + 1, 0, none⟩, 3, rfl, own_lit (w.alloc _) w.heap.size (w.heap.size + 1) 3 3 (List.map (fun z : Int => Value.int .i64 z) [a,b,c]).toArray [a,b,c] (by simp) rfl (by simp) rfl (by simp [maxLen]), ((Below.refl _ _).alloc (Nat.le_refl _) _).alloc (by simp) _⟩

set_option maxRecDepth 100000 in
theorem rAsks_any (x : TI) (w : World) : Calls Try.prog 62 #[.agg #[.int .i64 x.op, .int .i64 x.a, .int .i64 x.b, .int .i64 x.c, .int .i64 x.n, .int .i64 x.exit, .int .i64 x.k.1, .int .i64 x.k.2]] w (AskPost x.op x.a x.b x.c w) := by
  obtain ⟨op, a, b, c, n, ex, ⟨k1, k2⟩⟩ := x
  show Calls Try.prog 62 #[.agg #[.int .i64 op, .int .i64 a, .int .i64 b, .int .i64 c, .int .i64 n, .int .i64 ex, .int .i64 k1, .int .i64 k2]] w (AskPost op a b c w)
  by_cases h4 : op = 4
  · subst h4; exact rAsks_4 a b c n ex k1 k2 w
  by_cases h5 : op = 5
  · subst h5; exact rAsks_5 a b c n ex k1 k2 w
  by_cases h6 : op = 6
  · subst h6; exact rAsks_6 a b c n ex k1 k2 w
  by_cases h7 : op = 7
  · subst h7; exact rAsks_7 a b c n ex k1 k2 w
  by_cases h8 : op = 8
  · subst h8; exact rAsks_8 a b c n ex k1 k2 w
  by_cases h9 : op = 9
  · subst h9; exact rAsks_9 a b c n ex k1 k2 w
  by_cases h10 : op = 10
  · subst h10; exact rAsks_10 a b c n ex k1 k2 w
  by_cases h11 : op = 11
  · subst h11; exact rAsks_11 a b c n ex k1 k2 w
  by_cases h12 : op = 12
  · subst h12; exact rAsks_12 a b c n ex k1 k2 w
  by_cases h13 : op = 13
  · subst h13; exact rAsks_13 a b c n ex k1 k2 w
  by_cases h14 : op = 14
  · subst h14; exact rAsks_14 a b c n ex k1 k2 w
  by_cases h15 : op = 15
  · subst h15; exact rAsks_15 a b c n ex k1 k2 w
  by_cases h17 : op = 17
  · subst h17; exact rAsks_17 a b c n ex k1 k2 w
  have hA : Liv.asksN op = 0 := by unfold Liv.asksN; simp [h4, h5, h6, h7, h8, h9, h10, h11, h12, h13, h14, h15, h17]
  have HA := Lib.hid hA; clear hA
  have e4 : (op == 4) = false := by simp [h4]
  have e5 : (op == 5) = false := by simp [h5]
  have e6 : (op == 6) = false := by simp [h6]
  have e7 : (op == 7) = false := by simp [h7]
  have e8 : (op == 8) = false := by simp [h8]
  have e9 : (op == 9) = false := by simp [h9]
  have e10 : (op == 10) = false := by simp [h10]
  have e11 : (op == 11) = false := by simp [h11]
  have e12 : (op == 12) = false := by simp [h12]
  have e13 : (op == 13) = false := by simp [h13]
  have e14 : (op == 14) = false := by simp [h14]
  have e15 : (op == 15) = false := by simp [h15]
  have e17 : (op == 17) = false := by simp [h17]
  clear h4 h5 h6 h7 h8 h9 h10 h11 h12 h13 h14 h15 h17
  go_enter Try.func62, Try.ntmps62
  go_wp2_with fail
  go_ret
  exact ⟨none, 0, by rw [HA.out]; rfl, by rw [HA.out]; exact Own.nil_, (Below.refl _ _).alloc (Nat.le_refl _) _⟩

end Go.Proofs.Ytljdnadejmkaeaa

/- The reference's test of numbers: are they values of instructions ahead of a place? -/
namespace Go.Proofs.Ytljdnadejmkaeaa
open Go.RowKit

set_option maxHeartbeats 1600000 in
set_option maxRecDepth 100000 in
theorem rmay_any (B C ic lc n : Nat) (IA LA : Option Addr) (ins : List TI) (l : List Int) (at_ : Int) (v0 v1 v2 v4 v5 v6 v7 v8 v9 v10 v11 v12 : Value) (w : World) (hI : At w B IA ins) (hB : B ≤ w.heap.size) (hil : ins.length ≤ 9223372036854775807) (hat : at_ ≤ (ins.length : Int)) (hn : l.length = n) (hL : At w C LA l) (hC : C ≤ w.heap.size) (hl : n ≤ 9223372036854775807) :
    Calls Try.prog 61 #[.agg #[v0, v1, v2, .slice IA ins.length ic, v4, v5, v6, v7, v8, v9, v10, v11, v12], .slice LA n lc, .int .i64 at_] w fun e w' => e = .returned (.bool (!(l.any (Liv.bad ins at_)))) ∧ Below w.heap.size w w' := by
  have H := Lib.hid (And.intro hI (And.intro hL hn)); clear hI hL hn
  go_enter Try.func61, Try.ntmps61
  go_wp2_with fail
  refine wp_world (fun W => Blk W w.heap.size 72 #[v0, v1, v2, .slice IA ins.length ic, v4, v5, v6, v7, v8, v9, v10, v11, v12] ∧ Below w.heap.size w W ∧ w.heap.size + 1 ≤ W.heap.size) ⟨Blk.new _ _ _, (Below.refl _ _).alloc (Nat.le_refl _) _, by simp⟩ ?_
  rintro W ⟨hG, hb0, hs0⟩
  have HG := Lib.hid hG; clear hG
  go_loopg [11] (n) (fun gk iv wr => ∃ (k : Nat), k ≤ n ∧ gk = n - k ∧ iv = .int .i64 k ∧ Hid ((l.take k).any (Liv.bad ins at_) = false) ∧ Below (w.heap.size + 1) W wr ∧ w.heap.size + 1 ≤ wr.heap.size)
  case atStart => exact ⟨0, Nat.zero_le _, rfl, rfl, by simp [Hid], Below.refl _ _, hs0⟩
  case round =>
    obtain ⟨k, hk, rfl, rfl, hno, hbl, hsz⟩ := hrel
    have hbw : Below w.heap.size w wr := hb0.trans (hbl.mono (by omega))
    by_cases hlt : k < n
    · obtain ⟨b, o, v, rfl, hb, hx, hov, h0⟩ := (H.out.2.1.below (hbw.mono hC)).int_ (by have := H.out.2.2; omega : k < l.length)
      have hsn := any_snoc (Liv.bad ins at_) l k v hx
      rw [hno.out, Bool.false_or] at hsn
      have hbad : Liv.bad ins at_ v = true → l.any (Liv.bad ins at_) = true := fun h => List.any_eq_true.2 ⟨v, List.mem_of_getElem? hx, h⟩
      have HS := Lib.hid (And.intro hsn hbad); clear hsn hbad hx hno
      have hGr : Blk wr w.heap.size 72 #[v0, v1, v2, .slice IA ins.length ic, v4, v5, v6, v7, v8, v9, v10, v11, v12] := (hbl.block _ (by omega)).trans HG.out
      have c3 := hGr.cell 3 (v := .slice IA ins.length ic) rfl
      clear hGr
      have ltr : w.heap.size < wr.heap.size := by omega
      have hk0 : (0 : Int) ≤ (k : Int) := by omega
      have hk1 : (k : Int) < (n : Int) := by omega
      by_cases h1 : v < 0
      · have hq : l.any (Liv.bad ins at_) = true := HS.out.2 (by simp [Liv.bad, h1])
        have HQ := Lib.hid hq; clear hq
        go_wp2_with fail
        go_ret
        exact ⟨by rw [HQ.out]; rfl, hbw⟩
      · by_cases h2 : at_ ≤ v
        · have hq : l.any (Liv.bad ins at_) = true := HS.out.2 (by simp [Liv.bad, h2])
          have HQ := Lib.hid hq; clear hq
          go_wp2_with fail
          go_ret
          exact ⟨by rw [HQ.out]; rfl, hbw⟩
        · obtain ⟨j, rfl⟩ : ∃ j : Nat, v = (j : Int) := ⟨v.toNat, by omega⟩
          obtain ⟨b', o', x, rfl, hbB, hx, d0, -⟩ := (H.out.1.below (hbw.mono hB)).tI_ (by omega : j < ins.length)
          have hql : Liv.bad ins at_ (j : Int) = !(Liv.tells x.op) := by unfold Liv.bad; rw [Int.toNat_natCast, hx]; simp [h2]; intro h; exact absurd h h1
          have HQ := Lib.hid hql; clear hql hx
          have hj0 : (0 : Int) ≤ (j : Int) := by omega
          have hj1 : (j : Int) < (ins.length : Int) := by omega
          clear h1
          go_wp2_with fail
          refine (rTells_any x.op wr).mono ?_
          rintro e w1 ⟨rfl, hb1⟩
          have hs1 := hb1.size
          cases ht : Liv.tells x.op with
          | false =>
            rw [ht] at HQ
            have hq : l.any (Liv.bad ins at_) = true := HS.out.2 (by rw [HQ.out]; rfl)
            have HA := Lib.hid hq; clear hq ht
            go_wp2_with fail
            go_ret
            exact ⟨by rw [HA.out]; rfl, hbw.trans (hb1.mono (by omega))⟩
          | true =>
            rw [ht] at HQ
            clear ht
            go_wp2_with fail
            go_roundg (n - (k + 1))
            case measure => omega
            case rel => exact ⟨k + 1, by omega, rfl, by go_num, by unfold Hid; rw [HS.out.1, HQ.out]; rfl, hbl.trans (hb1.mono (by omega)), by omega⟩
    · have hq := hno.out
      rw [List.take_of_length_le (by have := H.out.2.2; omega)] at hq
      have HQ := Lib.hid hq; clear hq hno
      go_wp2_with fail
      go_ret
      exact ⟨by rw [HQ.out]; rfl, hbw⟩

end Go.Proofs.Ytljdnadejmkaeaa

/- Is an exit too large: the reference. -/
namespace Go.Proofs.Ytljdnadejmkaeaa
open Go.RowKit

namespace Liv
def wide (m : Mk) : Bool := decide (100 < m.vals.length)
def large (x : Ex) : Bool := x.makes.any wide || decide (60 < x.sets.length) || decide (300 < x.makes.length)
end Liv

set_option maxRecDepth 100000 in
theorem rlarge_any (B sc mc : Nat) (SA MA : Option Addr) (x : Ex) (w : World) (hm : At w B MA x.makes) (hB : B ≤ w.heap.size) (hsl : x.sets.length ≤ 9223372036854775807) (hml : x.makes.length ≤ 9223372036854775807) :
    Calls Try.prog 64 #[.agg #[.int .i64 x.at_, .int .i64 x.steps, .slice SA x.sets.length sc, .slice MA x.makes.length mc]] w fun e w' => e = .returned (.bool (Liv.large x)) ∧ Below w.heap.size w w' := by
  have H := Lib.hid hm; clear hm
  go_enter Try.func64, Try.ntmps64
  go_wp2_with fail
  refine wp_world (fun W => Blk W w.heap.size 31 #[.int .i64 x.at_, .int .i64 x.steps, .slice SA x.sets.length sc, .slice MA x.makes.length mc] ∧ Below w.heap.size w W ∧ w.heap.size + 1 ≤ W.heap.size) ⟨Blk.new _ _ _, (Below.refl _ _).alloc (Nat.le_refl _) _, by simp⟩ ?_
  rintro W ⟨hG, hb0, hs0⟩
  have g3 := hG.cell 3 (v := .slice MA x.makes.length mc) rfl
  have HG := Lib.hid hG; clear hG
  have ltW : w.heap.size < W.heap.size := by omega
  go_wp2_with fail
  clear g3
  go_loopg [8] (x.makes.length) (fun gk iv wr => ∃ (k : Nat), k ≤ x.makes.length ∧ gk = x.makes.length - k ∧ iv = .int .i64 k ∧ Hid ((x.makes.take k).any Liv.wide = false) ∧ Below (w.heap.size + 1) W wr ∧ w.heap.size + 1 ≤ wr.heap.size)
  case atStart => exact ⟨0, Nat.zero_le _, rfl, rfl, by simp [Hid], Below.refl _ _, hs0⟩
  case round =>
    obtain ⟨k, hk, rfl, rfl, hno, hbl, hsz⟩ := hrel
    have hbw : Below w.heap.size w wr := hb0.trans (hbl.mono (by omega))
    by_cases hlt : k < x.makes.length
    · obtain ⟨b, o, m, VA, vc, rfl, hb, hx, e0, e1, e2, e3, -, hvc, -⟩ := (H.out.below (hbw.mono hB)).mk_ hlt
      have hsn := any_snoc Liv.wide x.makes k m hx
      rw [hno.out, Bool.false_or] at hsn
      have hbad : Liv.wide m = true → x.makes.any Liv.wide = true := fun h => List.any_eq_true.2 ⟨m, List.mem_of_getElem? hx, h⟩
      have HS := Lib.hid (And.intro hsn hbad); clear hsn hbad hx hno hvc
      have hk0 : (0 : Int) ≤ (k : Int) := by omega
      have hk1 : (k : Int) < (x.makes.length : Int) := by omega
      by_cases h1 : 100 < m.vals.length
      · have hq : Liv.large x = true := by unfold Liv.large; rw [HS.out.2 (by simp [Liv.wide, h1])]; rfl
        have h2 : (100 : Int) < (m.vals.length : Int) := by omega
        have HQ := Lib.hid hq; clear hq
        go_wp2_with fail
        go_ret
        exact ⟨by rw [HQ.out]; rfl, hbw.alloc (by omega) _⟩
      · have hw : Liv.wide m = false := by simp [Liv.wide]; omega
        have h2 : ¬ (100 : Int) < (m.vals.length : Int) := by omega
        have HQ := Lib.hid hw; clear hw
        go_wp2_with fail
        go_roundg (x.makes.length - (k + 1))
        case measure => omega
        case rel => exact ⟨k + 1, by omega, rfl, by go_num, by unfold Hid; rw [HS.out.1, HQ.out], hbl.alloc (by omega) _, by simp; omega⟩
    · have hq := hno.out
      rw [List.take_of_length_le (by omega)] at hq
      have hG2 : Blk wr w.heap.size 31 #[.int .i64 x.at_, .int .i64 x.steps, .slice SA x.sets.length sc, .slice MA x.makes.length mc] := (hbl.block _ (by omega)).trans HG.out
      have g2 := hG2.cell 2 (v := .slice SA x.sets.length sc) rfl
      have g3 := hG2.cell 3 (v := .slice MA x.makes.length mc) rfl
      have ltr : w.heap.size < wr.heap.size := by omega
      clear hG2
      by_cases h1 : 60 < x.sets.length
      · have hL : Liv.large x = true := by unfold Liv.large; simp [h1]
        have h2 : (60 : Int) < (x.sets.length : Int) := by omega
        have HQ := Lib.hid hL; clear hL hq hno
        go_wp2_with fail
        go_ret
        exact ⟨by rw [HQ.out]; rfl, hbw⟩
      · have h2 : ¬ (60 : Int) < (x.sets.length : Int) := by omega
        by_cases h3 : 300 < x.makes.length
        · have hL : Liv.large x = true := by unfold Liv.large; simp [h3]
          have h4 : (300 : Int) < (x.makes.length : Int) := by omega
          have HQ := Lib.hid hL; clear hL hq hno
          go_wp2_with fail
          go_ret
          exact ⟨by rw [HQ.out]; rfl, hbw⟩
        · have hL : Liv.large x = false := by unfold Liv.large; rw [hq]; simp; omega
          have h4 : ¬ (300 : Int) < (x.makes.length : Int) := by omega
          have HQ := Lib.hid hL; clear hL hq hno
          go_wp2_with fail
          go_ret
          exact ⟨by rw [HQ.out]; rfl, hbw⟩

end Go.Proofs.Ytljdnadejmkaeaa

/- Is an exit too large: live's own test. -/
namespace Go.Proofs.Ytljdnadejmkaeaa
open Go.RowKit

def PredM (P : Program) (g : Nat) (lb : Array Value) (p : Mk → Bool) (l : List Mk) (w : World) : Prop :=
  ∀ (W : World) (x : Mk) (VA : Option Addr) (vc : Nat), x ∈ l → Below w.heap.size w W → Calls P g (#[.agg #[.int .i64 x.cell, .int .i64 x.kind, .int .i64 x.num, .slice VA x.vals.length vc]] ++ lb) W fun e W' => e = .returned (.bool (p x)) ∧ Below W.heap.size W W'

set_option maxHeartbeats 800000 in
set_option maxRecDepth 100000 in
theorem indexFuncMk_any (A : Option Addr) (c B g : Nat) (lb : Array Value) (p : Mk → Bool) (l : List Mk) (w : World) (h : At w B A l) (hB : B ≤ w.heap.size) (hl : l.length ≤ 9223372036854775807)
    (eg : ∀ args w, (callFunc g args).run Try.prog w = .ok (.enter g args) w) (hp : PredM Try.prog g lb p l w) :
    Calls Try.prog 142 #[.slice A l.length c, .func (.func g) #[] lb] w fun e w' => e = .returned (.int .i64 (idxI p l)) ∧ Below w.heap.size w w' := by
  have H := Lib.hid h; clear h
  have HP := Lib.hid hp; clear hp
  go_enter Try.func142, Try.ntmps142
  go_wp2
  go_loopw [8] (fun i wr => ∃ k : Nat, k ≤ l.length ∧ i = .int .i64 k ∧ Hid ((l.take k).any p = false) ∧ Below w.heap.size w wr) (fun i _ => l.length - (intOf i).toNat)
  case atStart => exact ⟨0, Nat.zero_le _, rfl, by simp [Hid], Below.refl _ _⟩
  case round =>
    obtain ⟨k, hk, rfl, hno, hbl⟩ := hrel
    have hsz := hbl.size
    by_cases hlt : k < l.length
    · obtain ⟨b, o, x, VA, vc, rfl, hb, hx, h0, h1, h2, h3, -, -, -⟩ := (H.out.below (hbl.mono hB)).mk_ hlt
      have hk0 : (0 : Int) ≤ (k : Int) := by omega
      have hk1 : (k : Int) < (l.length : Int) := by omega
      have hcall := HP.out wr x VA vc (List.mem_of_getElem? hx) hbl
      have HX := Lib.hid hx; clear hx
      cases hq : p x with
      | true =>
        rw [hq] at hcall
        have HC := Lib.hid hcall; clear hcall
        have HQ := Lib.hid hq; clear hq
        go_wp2_with (go_at_fn g; refine HC.out.mono ?_; rintro e w' ⟨rfl, hb'⟩)
        go_ret
        exact ⟨by rw [idxI_hit p l k x HX.out HQ.out hno.out]; rfl, hbl.trans (hb'.mono hsz)⟩
      | false =>
        rw [hq] at hcall
        have HC := Lib.hid hcall; clear hcall
        have HQ := Lib.hid hq; clear hq
        go_wp2_with (go_at_fn g; refine HC.out.mono ?_; rintro e w' ⟨rfl, hb'⟩)
        go_roundw
        case rel => exact ⟨k + 1, by omega, by go_num, by unfold Hid; rw [any_snoc _ _ _ _ HX.out, hno.out, HQ.out]; rfl, hbl.trans (hb'.mono hsz)⟩
        case measure => simp [intOf]; omega
    · go_wp2
      go_ret
      exact ⟨by have h1 := hno.out; rw [List.take_of_length_le (by omega)] at h1; unfold idxI; rw [h1]; rfl, hbl⟩

theorem containsFuncMk_any (A : Option Addr) (c B g : Nat) (lb : Array Value) (p : Mk → Bool) (l : List Mk) (w : World) (h : At w B A l) (hB : B ≤ w.heap.size) (hl : l.length ≤ 9223372036854775807)
    (eg : ∀ args w, (callFunc g args).run Try.prog w = .ok (.enter g args) w) (hp : PredM Try.prog g lb p l w) :
    Calls Try.prog 116 #[.slice A l.length c, .func (.func g) #[] lb] w fun e w' => e = .returned (.bool (l.any p)) ∧ Below w.heap.size w w' := by
  have HC := Lib.hid (indexFuncMk_any A c B g lb p l w h hB hl eg hp)
  clear h hp eg
  cases hq : l.any p with
  | true =>
    have hi : idxI p l = (l.findIdx p : Int) := by unfold idxI; rw [if_pos hq]
    rw [hi] at HC
    go_enter Try.func116, Try.ntmps116
    go_wp2_with (go_at_call 142; refine HC.out.mono ?_; rintro e w' ⟨rfl, hb'⟩)
    go_ret
    exact ⟨ret_bool (by simp), hb'⟩
  | false =>
    have hi : idxI p l = -1 := by unfold idxI; rw [hq]; rfl
    rw [hi] at HC
    go_enter Try.func116, Try.ntmps116
    go_wp2_with (go_at_call 142; refine HC.out.mono ?_; rintro e w' ⟨rfl, hb'⟩)
    go_ret
    exact ⟨ret_bool (by simp), hb'⟩


theorem egLarge : ∀ args w, (callFunc 117 args).run Try.prog w = .ok (.enter 117 args) w := fun _ _ => by kernel_rfl
theorem predLarge (l : List Mk) (w : World) : PredM Try.prog 117 #[] Liv.wide l w := by
  rintro W x VA vc _ _
  change Calls Try.prog 117 #[.agg #[.int .i64 x.cell, .int .i64 x.kind, .int .i64 x.num, .slice VA x.vals.length vc]] W _
  go_enter Try.func117, Try.ntmps117
  go_wp2
  go_ret
  exact ⟨ret_bool (by rw [Bool.eq_iff_iff]; simp [Liv.wide]; try omega), (Below.refl _ _).alloc (Nat.le_refl _) _⟩

end Go.Proofs.Ytljdnadejmkaeaa

/- order: exits by themselves: large, bare, makes, places that may be. -/
namespace Go.Proofs.Ytljdnadejmkaeaa
open Go.RowKit

/-! ### slices.IndexFunc, ContainsFunc at places -/
def PredRP (P : Program) (g : Nat) (lb : Array Value) (p : Int × Int → Bool) (l : List (Int × Int)) (w : World) : Prop :=
  ∀ (W : World) (x : Int × Int), x ∈ l → Flat.ok x → Below w.heap.size w W → Calls P g (#[.agg #[.int .i64 x.1, .int .i64 x.2]] ++ lb) W fun e W' => e = .returned (.bool (p x)) ∧ Below W.heap.size W W'

set_option maxHeartbeats 800000 in
set_option maxRecDepth 100000 in
theorem indexFuncRP_any (A : Option Addr) (c B g n : Nat) (lb : Array Value) (p : Int × Int → Bool) (l : List (Int × Int)) (w : World) (hn : l.length = n) (h : At w B A l) (hB : B ≤ w.heap.size) (hl : n ≤ 9223372036854775807)
    (eg : ∀ args w, (callFunc g args).run Try.prog w = .ok (.enter g args) w) (hp : PredRP Try.prog g lb p l w) :
    Calls Try.prog 146 #[.slice A n c, .func (.func g) #[] lb] w fun e w' => e = .returned (.int .i64 (idxI p l)) ∧ Below w.heap.size w w' := by
  subst hn
  have H := Lib.hid h; clear h
  have HP := Lib.hid hp; clear hp
  go_enter Try.func146, Try.ntmps146
  go_wp2
  go_loopw [8] (fun i wr => ∃ k : Nat, k ≤ l.length ∧ i = .int .i64 k ∧ Hid ((l.take k).any p = false) ∧ Below w.heap.size w wr) (fun i _ => l.length - (intOf i).toNat)
  case atStart => exact ⟨0, Nat.zero_le _, rfl, by simp [Hid], Below.refl _ _⟩
  case round =>
    obtain ⟨k, hk, rfl, hno, hbl⟩ := hrel
    have hsz := hbl.size
    by_cases hlt : k < l.length
    · obtain ⟨b, o, x, y, rfl, hb, hx, hox, hoy, h0, h1⟩ := (H.out.below (hbl.mono hB)).pair hlt
      have hk0 : (0 : Int) ≤ (k : Int) := by omega
      have hk1 : (k : Int) < (l.length : Int) := by omega
      have hcall := HP.out wr (x, y) (List.mem_of_getElem? hx) ⟨hox, hoy⟩ hbl
      have HX := Lib.hid hx; clear hx
      cases hq : p (x, y) with
      | true =>
        rw [hq] at hcall
        have HC := Lib.hid hcall; clear hcall
        have HQ := Lib.hid hq; clear hq
        go_wp2_with (go_at_fn g; refine HC.out.mono ?_; rintro e w' ⟨rfl, hb'⟩)
        go_ret
        exact ⟨by rw [idxI_hit p l k (x, y) HX.out HQ.out hno.out]; rfl, hbl.trans (hb'.mono hsz)⟩
      | false =>
        rw [hq] at hcall
        have HC := Lib.hid hcall; clear hcall
        have HQ := Lib.hid hq; clear hq
        go_wp2_with (go_at_fn g; refine HC.out.mono ?_; rintro e w' ⟨rfl, hb'⟩)
        go_roundw
        case rel => exact ⟨k + 1, by omega, by go_num, by unfold Hid; rw [any_snoc _ _ _ _ HX.out, hno.out, HQ.out]; rfl, hbl.trans (hb'.mono hsz)⟩
        case measure => simp [intOf]; omega
    · go_wp2
      go_ret
      exact ⟨by have h1 := hno.out; rw [List.take_of_length_le (by omega)] at h1; unfold idxI; rw [h1]; rfl, hbl⟩

theorem containsFuncRP_any (A : Option Addr) (c B g n : Nat) (lb : Array Value) (p : Int × Int → Bool) (l : List (Int × Int)) (w : World) (hn : l.length = n) (h : At w B A l) (hB : B ≤ w.heap.size) (hl : n ≤ 9223372036854775807)
    (eg : ∀ args w, (callFunc g args).run Try.prog w = .ok (.enter g args) w) (hp : PredRP Try.prog g lb p l w) :
    Calls Try.prog 126 #[.slice A n c, .func (.func g) #[] lb] w fun e w' => e = .returned (.bool (l.any p)) ∧ Below w.heap.size w w' := by
  have HC := Lib.hid (indexFuncRP_any A c B g n lb p l w hn h hB hl eg hp)
  clear h hp eg hn
  cases hq : l.any p with
  | true =>
    have hi : idxI p l = (l.findIdx p : Int) := by unfold idxI; rw [if_pos hq]
    rw [hi] at HC
    go_enter Try.func126, Try.ntmps126
    go_wp2_with (go_at_call 146; refine HC.out.mono ?_; rintro e w' ⟨rfl, hb'⟩)
    go_ret
    exact ⟨ret_bool (by simp), hb'⟩
  | false =>
    have hi : idxI p l = -1 := by unfold idxI; rw [hq]; rfl
    rw [hi] at HC
    go_enter Try.func126, Try.ntmps126
    go_wp2_with (go_at_call 146; refine HC.out.mono ?_; rintro e w' ⟨rfl, hb'⟩)
    go_ret
    exact ⟨ret_bool (by simp), hb'⟩

/-! ### at makes -/
def PredRM (P : Program) (g : Nat) (lb : Array Value) (p : RM → Bool) (l : List RM) (w : World) : Prop :=
  ∀ (W : World) (m : RM) (VA : Option Addr) (vc : Nat), m ∈ l → Below w.heap.size w W → Calls P g (#[.agg #[.int .i64 m.cell.1, .int .i64 m.cell.2, .int .i64 m.kind, .int .i64 m.num, .slice VA m.vals.length vc]] ++ lb) W fun e W' => e = .returned (.bool (p m)) ∧ Below W.heap.size W W'

set_option maxHeartbeats 800000 in
set_option maxRecDepth 100000 in
theorem indexFuncRM_any (A : Option Addr) (c B g : Nat) (lb : Array Value) (p : RM → Bool) (l : List RM) (w : World) (h : At w B A l) (hB : B ≤ w.heap.size) (hl : l.length ≤ 9223372036854775807)
    (eg : ∀ args w, (callFunc g args).run Try.prog w = .ok (.enter g args) w) (hp : PredRM Try.prog g lb p l w) :
    Calls Try.prog 145 #[.slice A l.length c, .func (.func g) #[] lb] w fun e w' => e = .returned (.int .i64 (idxI p l)) ∧ Below w.heap.size w w' := by
  have H := Lib.hid h; clear h
  have HP := Lib.hid hp; clear hp
  go_enter Try.func145, Try.ntmps145
  go_wp2
  go_loopw [8] (fun i wr => ∃ k : Nat, k ≤ l.length ∧ i = .int .i64 k ∧ Hid ((l.take k).any p = false) ∧ Below w.heap.size w wr) (fun i _ => l.length - (intOf i).toNat)
  case atStart => exact ⟨0, Nat.zero_le _, rfl, by simp [Hid], Below.refl _ _⟩
  case round =>
    obtain ⟨k, hk, rfl, hno, hbl⟩ := hrel
    have hsz := hbl.size
    by_cases hlt : k < l.length
    · obtain ⟨b, o, m, VA, vc, rfl, hb, hx, h0, h1, h2, h3, h4, -, -, -⟩ := (H.out.below (hbl.mono hB)).rM_ hlt
      have hk0 : (0 : Int) ≤ (k : Int) := by omega
      have hk1 : (k : Int) < (l.length : Int) := by omega
      have hcall := HP.out wr m VA vc (List.mem_of_getElem? hx) hbl
      have HX := Lib.hid hx; clear hx
      cases hq : p m with
      | true =>
        rw [hq] at hcall
        have HC := Lib.hid hcall; clear hcall
        have HQ := Lib.hid hq; clear hq
        go_wp2_with (go_at_fn g; refine HC.out.mono ?_; rintro e w' ⟨rfl, hb'⟩)
        go_ret
        exact ⟨by rw [idxI_hit p l k m HX.out HQ.out hno.out]; rfl, hbl.trans (hb'.mono hsz)⟩
      | false =>
        rw [hq] at hcall
        have HC := Lib.hid hcall; clear hcall
        have HQ := Lib.hid hq; clear hq
        go_wp2_with (go_at_fn g; refine HC.out.mono ?_; rintro e w' ⟨rfl, hb'⟩)
        go_roundw
        case rel => exact ⟨k + 1, by omega, by go_num, by unfold Hid; rw [any_snoc _ _ _ _ HX.out, hno.out, HQ.out]; rfl, hbl.trans (hb'.mono hsz)⟩
        case measure => simp [intOf]; omega
    · go_wp2
      go_ret
      exact ⟨by have h1 := hno.out; rw [List.take_of_length_le (by omega)] at h1; unfold idxI; rw [h1]; rfl, hbl⟩

theorem containsFuncRM_any (A : Option Addr) (c B g : Nat) (lb : Array Value) (p : RM → Bool) (l : List RM) (w : World) (h : At w B A l) (hB : B ≤ w.heap.size) (hl : l.length ≤ 9223372036854775807)
    (eg : ∀ args w, (callFunc g args).run Try.prog w = .ok (.enter g args) w) (hp : PredRM Try.prog g lb p l w) :
    Calls Try.prog 124 #[.slice A l.length c, .func (.func g) #[] lb] w fun e w' => e = .returned (.bool (l.any p)) ∧ Below w.heap.size w w' := by
  have HC := Lib.hid (indexFuncRM_any A c B g lb p l w h hB hl eg hp)
  clear h hp eg
  cases hq : l.any p with
  | true =>
    have hi : idxI p l = (l.findIdx p : Int) := by unfold idxI; rw [if_pos hq]
    rw [hi] at HC
    go_enter Try.func124, Try.ntmps124
    go_wp2_with (go_at_call 145; refine HC.out.mono ?_; rintro e w' ⟨rfl, hb'⟩)
    go_ret
    exact ⟨ret_bool (by simp), hb'⟩
  | false =>
    have hi : idxI p l = -1 := by unfold idxI; rw [hq]; rfl
    rw [hi] at HC
    go_enter Try.func124, Try.ntmps124
    go_wp2_with (go_at_call 145; refine HC.out.mono ?_; rintro e w' ⟨rfl, hb'⟩)
    go_ret
    exact ⟨ret_bool (by simp), hb'⟩

end Go.Proofs.Ytljdnadejmkaeaa

/- The values of an exit: the reference's list and live's. -/
namespace Go.Proofs.Ytljdnadejmkaeaa
open Go.RowKit

namespace Liv
def vals (x : Ex) : List Int := x.sets.map (·.2) ++ x.makes.flatMap (fun m => m.cell :: m.vals)
theorem fm_snoc {α β : Type} (f : α → List β) (l : List α) (k : Nat) (x : α) (h : l[k]? = some x) : (l.take (k + 1)).flatMap f = (l.take k).flatMap f ++ f x := by
  rw [List.take_add_one, h, List.flatMap_append]; simp
theorem mp_snoc {α β : Type} (f : α → β) (l : List α) (k : Nat) (x : α) (h : l[k]? = some x) : (l.take (k + 1)).map f = (l.take k).map f ++ [f x] := by
  rw [List.take_add_one, h, List.map_append]; simp
theorem fm_room {α β : Type} (f : α → List β) (l : List α) (k : Nat) (x : α) (h : l[k]? = some x) : ((l.take k).flatMap f).length + (f x).length ≤ (l.flatMap f).length := by
  have e : l = l.take (k + 1) ++ l.drop (k + 1) := (List.take_append_drop _ _).symm
  have h1 : (l.flatMap f).length = ((l.take (k + 1) ++ l.drop (k + 1)).flatMap f).length := by rw [← e]
  rw [h1, List.flatMap_append, List.length_append, fm_snoc f l k x h, List.length_append]
  omega
theorem vals_sets (x : Ex) : x.sets.length ≤ (vals x).length := by unfold vals; rw [List.length_append, List.length_map]; omega
theorem fm_ge {α β : Type} (f : α → List β) (l : List α) (h : ∀ x, 1 ≤ (f x).length) : l.length ≤ (l.flatMap f).length := by
  induction l with
  | nil => simp
  | cons x l ih => rw [List.flatMap_cons, List.length_append, List.length_cons]; have := h x; omega
theorem vals_makes (x : Ex) : x.makes.length ≤ (vals x).length := by
  unfold vals; rw [List.length_append]
  have := fm_ge (fun m : Mk => m.cell :: m.vals) x.makes (fun m => by simp)
  omega
end Liv

set_option maxHeartbeats 1600000 in
set_option maxRecDepth 100000 in
theorem rvalues_any (B sc mc N : Nat) (SA MA : Option Addr) (x : Ex) (w : World) (hs : At w B SA x.sets) (hm : At w B MA x.makes) (hB : B ≤ w.heap.size) (hN : (Liv.vals x).length = N) (hl : N * 8 ≤ 140737488355328) :
    Calls Try.prog 63 #[.agg #[.int .i64 x.at_, .int .i64 x.steps, .slice SA x.sets.length sc, .slice MA x.makes.length mc]] w fun e w' => ∃ A d, e = .returned (.slice A N d) ∧ Own w' w.heap.size 3 A d (Liv.vals x) ∧ Below w.heap.size w w' := by
  obtain ⟨i0, hi, hz0, hz1, hz2⟩ := info_parts infoInt
  have hsl := Liv.vals_sets x
  have hml := Liv.vals_makes x
  rw [hN] at hsl hml
  have H := Lib.hid (And.intro hs (And.intro hm hN)); clear hs hm hN
  go_enter Try.func63, Try.ntmps63
  go_wp2_with fail
  refine wp_world (fun W => Blk W w.heap.size 31 #[.int .i64 x.at_, .int .i64 x.steps, .slice SA x.sets.length sc, .slice MA x.makes.length mc] ∧ Below w.heap.size w W ∧ w.heap.size + 1 ≤ W.heap.size) ⟨Blk.new _ _ _, (Below.refl _ _).alloc (Nat.le_refl _) _, by simp⟩ ?_
  rintro W ⟨hG, hb0, hs0⟩
  have g2 := hG.cell 2 (v := .slice SA x.sets.length sc) rfl
  have HG := Lib.hid hG; clear hG
  have ltW : w.heap.size < W.heap.size := by omega
  go_wp2_with fail
  clear g2
  go_loopg [3, 11] (x.sets.length) (fun gk ov iv wr => ∃ (k : Nat) (A2 : Option Addr) (c2 : Nat) (o1 : List Int), k ≤ x.sets.length ∧ gk = x.sets.length - k ∧ iv = .int .i64 k ∧ ov = .slice A2 o1.length c2 ∧ o1.length ≤ k ∧ Hid (o1 = (x.sets.take k).map (·.2) ∧ Own wr (w.heap.size + 1) 3 A2 c2 o1) ∧ Below (w.heap.size + 1) W wr ∧ w.heap.size + 1 ≤ wr.heap.size)
  case atStart => exact ⟨0, none, 0, [], Nat.zero_le _, rfl, rfl, rfl, Nat.le_refl _, ⟨rfl, Own.nil_⟩, Below.refl _ _, hs0⟩
  case round =>
    obtain ⟨k, A2, c2, o1, hk, rfl, rfl, rfl, ho1, hkeep, hbl, hsz⟩ := hrel
    by_cases hlt : k < x.sets.length
    · obtain ⟨b, o, a1, a2, rfl, hb, hx, hox, hoy, d0, d1⟩ := (H.out.1.below ((hb0.trans (hbl.mono (by omega))).mono hB)).pair hlt
      have hsn := Liv.mp_snoc (·.2) x.sets k _ hx
      have HX := Lib.hid (And.intro hsn (And.intro hkeep.out hoy)); clear hsn hx hox hoy hkeep
      go_wp2_with (at_builtin; go_must (refine wpList_app (α := Int) (n := o1.length) (m := 1) (B := wr.heap.size + 1 + 1) (r := [a2]) rfl (.tmp 15) (.tmp 18) _ rfl (w.heap.size + 1) 3 i0 _ 8 Try.underlying40 hi hz0 hz1 hz2 rfl (by decide) int_one (by rfl) rfl ((HX.out.2.1.2.alloc _).alloc _) (by rfl) ?_ rfl (by omega) (by simp only [maxLen]; omega) (by simp; omega) ?_))
      · have := At.built (wr.alloc (.cells #[.int .i64 a1, .int .i64 a2] 38)) #[.int .i64 a2] 3 [a2] rfl (by intro z hz; simp at hz; subst hz; exact HX.out.2.2)
        simpa using this
      intro A3 c3 w3 hown3 hgr3 hat3
      have hbl3 : Below (w.heap.size + 1) W w3 := ((hbl.alloc hsz _).alloc (by simp; omega) _).grown hgr3 (by simp; omega) (fun g hg => (HX.out.2.1.2.lt g hg).1)
      have hs3 : w.heap.size + 1 ≤ w3.heap.size := by have := hgr3.size; simp at this; omega
      have heq : o1 ++ [a2] = (x.sets.take (k + 1)).map (·.2) := by rw [HX.out.1, ← HX.out.2.1.1]
      have hl3 : (o1 ++ [a2]).length = o1.length + 1 := by rw [List.length_append]; rfl
      have H3 := Lib.hid (And.intro heq (And.intro hown3 hl3)); clear heq hown3 hl3 hgr3 hat3
      go_wp2_with fail
      go_roundg (x.sets.length - (k + 1))
      case measure => omega
      case rel => exact ⟨k + 1, A3, c3, _, by omega, rfl, by go_num, by rw [H3.out.2.2], by rw [H3.out.2.2]; omega, ⟨H3.out.1, H3.out.2.1⟩, hbl3, hs3⟩
    · obtain ⟨k1, k2⟩ := hkeep.out
      rw [List.take_of_length_le (by omega)] at k1
      have hls : o1.length = x.sets.length := by rw [k1, List.length_map]
      have HK := Lib.hid (And.intro k1 (And.intro k2 hls)); clear k1 k2 hls hkeep
      have hG2 : Blk wr w.heap.size 31 #[.int .i64 x.at_, .int .i64 x.steps, .slice SA x.sets.length sc, .slice MA x.makes.length mc] := (hbl.block _ (by omega)).trans HG.out
      have g3 := hG2.cell 3 (v := .slice MA x.makes.length mc) rfl
      have ltr : w.heap.size < wr.heap.size := by omega
      clear hG2
      obtain ⟨wo, rfl⟩ : ∃ wo : World, wo = wr := ⟨_, rfl⟩
      go_wp2_with fail
      clear g3
      go_loopg [3, 24] (x.makes.length) (fun gj ov jv wj => ∃ (j : Nat) (A5 : Option Addr) (c5 : Nat) (o2 : List Int), j ≤ x.makes.length ∧ gj = x.makes.length - j ∧ jv = .int .i64 j ∧ ov = .slice A5 o2.length c5 ∧ Hid (o2 = o1 ++ (x.makes.take j).flatMap (fun m => m.cell :: m.vals) ∧ Own wj (w.heap.size + 1) 3 A5 c5 o2) ∧ Below (w.heap.size + 1) W wj ∧ w.heap.size + 1 ≤ wj.heap.size)
      case atStart => exact ⟨0, A2, c2, o1, Nat.zero_le _, rfl, rfl, rfl, ⟨by simp, HK.out.2.1⟩, hbl, by omega⟩
      case round =>
        obtain ⟨j, A5, c5, o2, hj, rfl, rfl, rfl, hkeep, hblj, hsj⟩ := hrel
        by_cases hjt : j < x.makes.length
        · obtain ⟨b, o, m, VA, vc, rfl, hb, hx, e0, e1, e2, e3, av, hvc, j0, j1, j2⟩ := (H.out.2.1.below ((hb0.trans (hblj.mono (by omega))).mono hB)).mk_ hjt
          have hsn := Liv.fm_snoc (fun m : Mk => m.cell :: m.vals) x.makes j _ hx
          have hrm := Liv.fm_room (fun m : Mk => m.cell :: m.vals) x.makes j _ hx
          have hroom : o2.length + (m.vals.length + 1) ≤ N := by
            rw [← H.out.2.2, hkeep.out.1, List.length_append, HK.out.2.2]; unfold Liv.vals; rw [List.length_append, List.length_map]; simp only [List.length_cons] at hrm; omega
          have HX := Lib.hid (And.intro hsn (And.intro hkeep.out (And.intro j0 av))); clear hsn hx hrm hkeep j0 j1 j2 av hvc
          go_wp2_with (at_builtin; go_must (refine wpList_app (α := Int) (n := o2.length) (m := 1) (B := wr.heap.size + 1 + 1) (r := [m.cell]) rfl (.tmp 28) (.tmp 31) _ rfl (w.heap.size + 1) 3 i0 _ 8 Try.underlying40 hi hz0 hz1 hz2 rfl (by decide) int_one (by rfl) rfl ((HX.out.2.1.2.alloc _).alloc _) (by rfl) ?_ rfl (by omega) (by simp only [maxLen]; omega) (by simp; omega) ?_))
          · have := At.built (wr.alloc (.cells #[.int .i64 m.cell, .int .i64 m.kind, .int .i64 m.num, .slice VA m.vals.length vc] 54)) #[.int .i64 m.cell] 3 [m.cell] rfl (by intro z hz; simp at hz; subst hz; exact HX.out.2.2.1)
            simpa using this
          intro A3 c3 w3 hown3 hgr3 hat3
          have hlo : (o2 ++ [m.cell]).length = o2.length + 1 := by rw [List.length_append]; rfl
          have hF := ((Blk.new wr 54 #[.int .i64 m.cell, .int .i64 m.kind, .int .i64 m.num, .slice VA m.vals.length vc]).alloc (.cells #[.int .i64 m.cell] 3)).grown hgr3 (fun e => by have := (HX.out.2.1.2.lt _ e).2; omega)
          have p3 := hF.cell 3 (v := .slice VA m.vals.length vc) rfl
          have hbr3 : Below (w.heap.size + 1) wr w3 := (((Below.refl _ wr).alloc hsj _).alloc (by simp; omega) _).grown hgr3 (by simp; omega) (fun g hg => (HX.out.2.1.2.lt g hg).1)
          have hs3 : wr.heap.size + 2 ≤ w3.heap.size := by have := hgr3.size; simp at this; omega
          have lt3 : wr.heap.size < w3.heap.size := by omega
          have hbl3 : Below (w.heap.size + 1) W w3 := hblj.trans hbr3
          have HA3 := Lib.hid (And.intro hown3 (And.intro hlo (HX.out.2.2.2.below (hbr3.mono (by omega))))); clear hown3 hlo hF hgr3 hat3 e0 e1 e2 e3
          go_wp2_with (at_builtin; go_must (refine wpList_app (α := Int) (n := o2.length + 1) (m := m.vals.length) (B := B) (r := m.vals) rfl (.tmp 33) (.tmp 35) _ rfl (w.heap.size + 1) 3 i0 _ 8 Try.underlying40 hi hz0 hz1 hz2 rfl (by decide) int_one (by rfl) HA3.out.2.1 HA3.out.1 (by rfl) HA3.out.2.2 rfl (by omega) (by simp only [maxLen]; omega) (by omega) ?_))
          intro A4 c4 w4 hown4 hgr4 hat4
          have hown4 : Own w4 (w.heap.size + 1) 3 A4 c4 (o2 ++ [m.cell] ++ m.vals) := by simpa using hown4
          have hs4 := hgr4.size
          have hbl4 : Below (w.heap.size + 1) W w4 := hbl3.grown hgr4 (by omega) (fun g hg => (HA3.out.1.lt g hg).1)
          have heq : o2 ++ [m.cell] ++ m.vals = o1 ++ (x.makes.take (j + 1)).flatMap (fun m => m.cell :: m.vals) := by rw [HX.out.1, HX.out.2.1.1]; simp
          have hl4 : o2.length + 1 + m.vals.length = (o2 ++ [m.cell] ++ m.vals).length := by rw [List.length_append, HA3.out.2.1]
          have H4 := Lib.hid (And.intro heq (And.intro hown4 hl4)); clear heq hown4 hl4 hgr4 hat4 p3
          go_wp2_with fail
          go_roundg (x.makes.length - (j + 1))
          case measure => omega
          case rel => exact ⟨j + 1, A4, c4, _, by omega, rfl, by go_num, by rw [← H4.out.2.2], ⟨H4.out.1, H4.out.2.1⟩, hbl4, by omega⟩
        · obtain ⟨q1, q2⟩ := hkeep.out
          rw [List.take_of_length_le (by omega), HK.out.1] at q1
          have hq1 : o2 = Liv.vals x := q1
          have hq2 : o2.length = N := by rw [hq1]; exact H.out.2.2
          have hblw : Below w.heap.size w wr := hb0.trans (hblj.mono (by omega))
          have HF := Lib.hid (And.intro hq1 (And.intro hq2 q2)); clear q1 hq1 hq2 q2 hkeep
          go_wp2_with fail
          go_ret
          exact ⟨A5, c5, by rw [← HF.out.2.1]; rfl, by rw [← HF.out.1]; exact HF.out.2.2.base_le (by omega), hblw⟩

end Go.Proofs.Ytljdnadejmkaeaa

/- order.Places: the places of an exit. -/
namespace Go.Proofs.Ytljdnadejmkaeaa
open Go.RowKit

theorem At.trip {w : World} {B : Nat} {A : Option Addr} {l : List (Int × Int × Int)} {k : Nat} (h : At w B A l) (hk : k < l.length) :
    ∃ b o x y z, A = some ⟨b, o, none⟩ ∧ b < B ∧ l[k]? = some (x, y, z) ∧ I64 x ∧ I64 y ∧ I64 z ∧ w.cell? ⟨b, o + k * 3, none⟩ = some (.int .i64 x) ∧ w.cell? ⟨b, o + k * 3 + 1, none⟩ = some (.int .i64 y) ∧ w.cell? ⟨b, o + k * 3 + 2, none⟩ = some (.int .i64 z) := by
  obtain ⟨x, hx⟩ : ∃ x, l[k]? = some x := ⟨l[k], List.getElem?_eq_getElem hk⟩
  obtain ⟨b, o, cs, rfl, hb, hc, rfl, hok⟩ := h k x hx
  exact ⟨b, o, x.1, x.2.1, x.2.2, rfl, hb, hx, hok.1, hok.2.1, hok.2.2, hc 0 _ rfl, hc 1 _ rfl, hc 2 _ rfl⟩
theorem Ord.places_sets (x : RE) : x.sets.length ≤ (Ord.places x).length := by unfold Ord.places; simp
theorem Ord.places_makes (x : RE) : x.makes.length ≤ (Ord.places x).length := by
  unfold Ord.places
  rw [List.length_append]
  have key : ∀ l : List RM, l.length ≤ (l.flatMap fun m => m.cell :: m.vals).length := by
    intro l
    induction l with
    | nil => simp
    | cons m l ih => rw [List.flatMap_cons, List.length_append]; simp only [List.length_cons]; omega
  have := key x.makes
  omega

set_option maxHeartbeats 1600000 in
set_option maxRecDepth 100000 in
theorem places_any (B sc mc N : Nat) (SA MA : Option Addr) (x : RE) (w : World) (hs : At w B SA x.sets) (hm : At w B MA x.makes) (hB : B ≤ w.heap.size) (hN : (Ord.places x).length = N) (hl : N * 16 ≤ 140737488355328) :
    Calls Try.prog 127 #[.agg #[.int .i64 x.at_, .int .i64 x.steps, .slice SA x.sets.length sc, .slice MA x.makes.length mc]] w fun e w' => ∃ A d, e = .returned (.slice A N d) ∧ Own w' w.heap.size 90 A d (Ord.places x) ∧ Below w.heap.size w w' := by
  obtain ⟨i0, hi, hz0, hz1, hz2⟩ := info_parts infoRPlace
  have hsl := Ord.places_sets x
  have hml := Ord.places_makes x
  rw [hN] at hsl hml
  have H := Lib.hid (And.intro hs (And.intro hm hN)); clear hs hm hN
  go_enter Try.func127, Try.ntmps127
  go_wp2_with fail
  refine wp_world (fun W => Blk W w.heap.size 102 #[.int .i64 x.at_, .int .i64 x.steps, .slice SA x.sets.length sc, .slice MA x.makes.length mc] ∧ Below w.heap.size w W ∧ w.heap.size + 1 ≤ W.heap.size) ⟨Blk.new _ _ _, (Below.refl _ _).alloc (Nat.le_refl _) _, by simp⟩ ?_
  rintro W ⟨hG, hb0, hs0⟩
  have g2 := hG.cell 2 (v := .slice SA x.sets.length sc) rfl
  have HG := Lib.hid hG; clear hG
  have ltW : w.heap.size < W.heap.size := by omega
  go_wp2_with fail
  clear g2
  go_loopg [3, 11] (x.sets.length) (fun gk ov iv wr => ∃ (k : Nat) (A2 : Option Addr) (c2 : Nat) (o1 : List (Int × Int)), k ≤ x.sets.length ∧ gk = x.sets.length - k ∧ iv = .int .i64 k ∧ ov = .slice A2 o1.length c2 ∧ o1.length ≤ k ∧ Hid (o1 = (x.sets.take k).map (·.2) ∧ Own wr (w.heap.size + 1) 90 A2 c2 o1) ∧ Below (w.heap.size + 1) W wr ∧ w.heap.size + 1 ≤ wr.heap.size)
  case atStart => exact ⟨0, none, 0, [], Nat.zero_le _, rfl, rfl, rfl, Nat.le_refl _, ⟨rfl, Own.nil_⟩, Below.refl _ _, hs0⟩
  case round =>
    obtain ⟨k, A2, c2, o1, hk, rfl, rfl, rfl, ho1, hkeep, hbl, hsz⟩ := hrel
    by_cases hlt : k < x.sets.length
    · obtain ⟨b, o, a0, a1, a2, rfl, hb, hx, hox, hoy, hoz, d0, d1, d2⟩ := (H.out.1.below ((hb0.trans (hbl.mono (by omega))).mono hB)).trip hlt
      have hsn := Liv.mp_snoc (·.2) x.sets k _ hx
      have HX := Lib.hid (And.intro hsn (And.intro hkeep.out (And.intro hoy hoz))); clear hsn hx hox hoy hoz hkeep
      go_wp2_with (at_builtin; go_must (refine wpList_app (α := Int × Int) (n := o1.length) (m := 1) (B := wr.heap.size + 1 + 1) (r := [(a1, a2)]) rfl (.tmp 15) (.tmp 18) _ rfl (w.heap.size + 1) 90 i0 _ 16 Try.underlying83 hi hz0 hz1 hz2 rfl (by decide) pair_one (by rfl) rfl ((HX.out.2.1.2.alloc _).alloc _) (by rfl) ?_ rfl (by omega) (by simp only [maxLen]; omega) (by simp; omega) ?_))
      · have := At.built (wr.alloc (.cells #[.int .i64 a0, .int .i64 a1, .int .i64 a2] 186)) #[.int .i64 a1, .int .i64 a2] 90 [(a1, a2)] rfl (by intro z hz; simp at hz; subst hz; exact HX.out.2.2)
        simpa using this
      intro A3 c3 w3 hown3 hgr3 hat3
      have hbl3 : Below (w.heap.size + 1) W w3 := ((hbl.alloc hsz _).alloc (by simp; omega) _).grown hgr3 (by simp; omega) (fun g hg => (HX.out.2.1.2.lt g hg).1)
      have hs3 : w.heap.size + 1 ≤ w3.heap.size := by have := hgr3.size; simp at this; omega
      have heq : o1 ++ [(a1, a2)] = (x.sets.take (k + 1)).map (·.2) := by rw [HX.out.1, ← HX.out.2.1.1]
      have hl3 : (o1 ++ [(a1, a2)]).length = o1.length + 1 := by rw [List.length_append]; rfl
      have H3 := Lib.hid (And.intro heq (And.intro hown3 hl3)); clear heq hown3 hl3 hgr3 hat3
      go_wp2_with fail
      go_roundg (x.sets.length - (k + 1))
      case measure => omega
      case rel => exact ⟨k + 1, A3, c3, _, by omega, rfl, by go_num, by rw [H3.out.2.2], by rw [H3.out.2.2]; omega, ⟨H3.out.1, H3.out.2.1⟩, hbl3, hs3⟩
    · obtain ⟨k1, k2⟩ := hkeep.out
      rw [List.take_of_length_le (by omega)] at k1
      have hls : o1.length = x.sets.length := by rw [k1, List.length_map]
      have HK := Lib.hid (And.intro k1 (And.intro k2 hls)); clear k1 k2 hls hkeep
      have hG2 : Blk wr w.heap.size 102 #[.int .i64 x.at_, .int .i64 x.steps, .slice SA x.sets.length sc, .slice MA x.makes.length mc] := (hbl.block _ (by omega)).trans HG.out
      have g3 := hG2.cell 3 (v := .slice MA x.makes.length mc) rfl
      have ltr : w.heap.size < wr.heap.size := by omega
      clear hG2
      obtain ⟨wo, rfl⟩ : ∃ wo : World, wo = wr := ⟨_, rfl⟩
      go_wp2_with fail
      clear g3
      go_loopg [3, 24] (x.makes.length) (fun gj ov jv wj => ∃ (j : Nat) (A5 : Option Addr) (c5 : Nat) (o2 : List (Int × Int)), j ≤ x.makes.length ∧ gj = x.makes.length - j ∧ jv = .int .i64 j ∧ ov = .slice A5 o2.length c5 ∧ Hid (o2 = o1 ++ (x.makes.take j).flatMap (fun m => m.cell :: m.vals) ∧ Own wj (w.heap.size + 1) 90 A5 c5 o2) ∧ Below (w.heap.size + 1) W wj ∧ w.heap.size + 1 ≤ wj.heap.size)
      case atStart => exact ⟨0, A2, c2, o1, Nat.zero_le _, rfl, rfl, rfl, ⟨by simp, HK.out.2.1⟩, hbl, by omega⟩
      case round =>
        obtain ⟨j, A5, c5, o2, hj, rfl, rfl, rfl, hkeep, hblj, hsj⟩ := hrel
        by_cases hjt : j < x.makes.length
        · obtain ⟨b, o, m, VA, vc, rfl, hb, hx, e0, e1, e2, e3, e4, av, hvc, j0, j1, j2, j3⟩ := (H.out.2.1.below ((hb0.trans (hblj.mono (by omega))).mono hB)).rM_ hjt
          have hsn := Liv.fm_snoc (fun m : RM => m.cell :: m.vals) x.makes j _ hx
          have hrm := Liv.fm_room (fun m : RM => m.cell :: m.vals) x.makes j _ hx
          have hroom : o2.length + (m.vals.length + 1) ≤ N := by
            rw [← H.out.2.2, hkeep.out.1, List.length_append, HK.out.2.2]; unfold Ord.places; rw [List.length_append, List.length_map]; simp only [List.length_cons] at hrm; omega
          have HX := Lib.hid (And.intro hsn (And.intro hkeep.out (And.intro (And.intro j0 j1) av))); clear hsn hx hrm hkeep j0 j1 j2 j3 av hvc
          go_wp2_with fail
          refine wp_world (fun V => Blk V wr.heap.size 189 #[.int .i64 m.cell.1, .int .i64 m.cell.2, .int .i64 m.kind, .int .i64 m.num, .slice VA m.vals.length vc] ∧ Own V (w.heap.size + 1) 90 A5 c5 o2 ∧ Below (w.heap.size + 1) wr V ∧ wr.heap.size + 1 ≤ V.heap.size) ⟨Blk.new _ _ _, HX.out.2.1.2.alloc _, (Below.refl _ _).alloc hsj _, by simp⟩ ?_
          rintro V ⟨hF, hO, hbV, hsV⟩
          have p0 := hF.cell 0 (v := .int .i64 m.cell.1) rfl
          have p1 := hF.cell 1 (v := .int .i64 m.cell.2) rfl
          have p3 := hF.cell 4 (v := .slice VA m.vals.length vc) rfl
          have HLB := Lib.hid (hF.drew.alloc (.cells #[.int .i64 m.cell.1, .int .i64 m.cell.2] 90))
          have HLO := Lib.hid (hO.drew.alloc (.cells #[.int .i64 m.cell.1, .int .i64 m.cell.2] 90))
          have HLT := Lib.hid (At.built V.drew #[.int .i64 m.cell.1, .int .i64 m.cell.2] 90 [m.cell] rfl (by intro z hz; simp at hz; subst hz; exact HX.out.2.2.1))
          have hsV1 : w.heap.size + 1 ≤ V.heap.size := by omega
          have eV : V.drew.heap.size = V.heap.size := rfl
          have HAV := Lib.hid (fun (w3 : World) (r : Option Nat) (hg : (V.drew.alloc (.cells #[.int .i64 m.cell.1, .int .i64 m.cell.2] 90)).grownBy w3 r) (hr : r = rowOf A5) => HX.out.2.2.2.below (((hbV.drew.alloc (show w.heap.size + 1 ≤ V.heap.size from hsV1) (.cells #[.int .i64 m.cell.1, .int .i64 m.cell.2] 90)).grown hg (by simp; omega) (fun g hg' => (hO.lt g (by rw [← hr]; exact hg')).1)).mono (show B ≤ w.heap.size + 1 by omega)))
          have HBV := Lib.hid (And.intro hO hbV)
          clear hF hO hbV e0 e1 e2 e3 e4
          go_region_held3 (fun w' => w'.cell? ⟨wr.heap.size, 0, none⟩ = some (.int .i64 m.cell.1) ∧ w'.cell? ⟨wr.heap.size, 1, none⟩ = some (.int .i64 m.cell.2) ∧ w'.cell? ⟨wr.heap.size, 4, none⟩ = some (.slice VA m.vals.length vc))
            (first
              | exact ⟨p0, p1, p3⟩
              | exact ⟨HLB.out.cell 0 rfl, HLB.out.cell 1 rfl, HLB.out.cell 4 rfl⟩
              | (have F1 := HLB.out.grown hgr3 (fun e => own_ne_ty HLO.out HLB.out (by decide) e); exact ⟨F1.cell 0 rfl, F1.cell 1 rfl, F1.cell 4 rfl⟩)
              | (have F1 := HLB.out.grown hgr3 (fun e => own_ne_ty HLO.out HLB.out (by decide) e); have F2 := F1.grown hgr4 (fun e => own_ne_ty hown3 F1 (by decide) e); exact ⟨F2.cell 0 rfl, F2.cell 1 rfl, F2.cell 4 rfl⟩)
              | go_keep)
            (first
              | (refine step_app (α := Int × Int) (n := o2.length) (m := 1) (nm := o2.length + 1) (B := V.heap.size + 1) (r := [m.cell]) (by rfl) (.tmp 28) (.tmp 31) _ (by rfl) (w.heap.size + 1) 90 i0 _ 16 Try.underlying83 hi hz0 hz1 hz2 rfl (by decide) pair_one (by rfl) rfl HLO.out (by rfl) HLT.out rfl rfl (by omega) (by simp only [maxLen]; omega) (by simp; omega) ?_; intro A3 c3 w3 hown3 hgr3 hat3)
              | (refine step_app (α := Int × Int) (n := o2.length + 1) (m := m.vals.length) (nm := o2.length + 1 + m.vals.length) (B := B) (r := m.vals) (by rfl) (.tmp 32) (.tmp 34) _ (by rfl) (w.heap.size + 1) 90 i0 _ 16 Try.underlying83 hi hz0 hz1 hz2 rfl (by decide) pair_one (by rfl) (by rw [List.length_append]; rfl) hown3 (by rfl) (HAV.out w3 _ hgr3 rfl) rfl rfl (by omega) (by simp only [maxLen]; omega) (by have := hgr3.size; simp at this; omega) ?_; intro A4 c4 w4 hown4 hgr4 hat4))
          have hs3 : V.heap.size + 1 ≤ w3.heap.size := by simpa using hgr3.size
          have hs4 := hgr4.size
          have hbl4 : Below (w.heap.size + 1) W w4 := hblj.trans (((HBV.out.2.drew.alloc (show w.heap.size + 1 ≤ V.heap.size from hsV1) (.cells #[.int .i64 m.cell.1, .int .i64 m.cell.2] 90)).grown hgr3 (by simp; omega) (fun g hg => (HBV.out.1.lt g hg).1)).grown hgr4 (by omega) (fun g hg => (hown3.lt g hg).1))
          have heq : o2 ++ [m.cell] ++ m.vals = o1 ++ (x.makes.take (j + 1)).flatMap (fun m => m.cell :: m.vals) := by rw [HX.out.1, HX.out.2.1.1]; simp
          have hl4 : o2.length + 1 + m.vals.length = (o2 ++ [m.cell] ++ m.vals).length := by rw [List.length_append, List.length_append]; rfl
          have H4 := Lib.hid (And.intro heq (And.intro hown4 hl4)); clear heq hown4 hl4 hgr4 hat4 hown3 hgr3 hat3 p0 p1 p3
          go_wp2_with fail
          go_roundg (x.makes.length - (j + 1))
          case measure => omega
          case rel => exact ⟨j + 1, A4, c4, _, by omega, rfl, by go_num, by rw [← H4.out.2.2], ⟨H4.out.1, H4.out.2.1⟩, hbl4, by omega⟩
        · obtain ⟨q1, q2⟩ := hkeep.out
          rw [List.take_of_length_le (by omega), HK.out.1] at q1
          have hq1 : o2 = Ord.places x := q1
          have hq2 : o2.length = N := by rw [hq1]; exact H.out.2.2
          have hblw : Below w.heap.size w wr := hb0.trans (hblj.mono (by omega))
          have HF := Lib.hid (And.intro hq1 (And.intro hq2 q2)); clear q1 hq1 hq2 q2 hkeep
          go_wp2_with fail
          go_ret
          exact ⟨A5, c5, by rw [← HF.out.2.1]; rfl, by rw [← HF.out.1]; exact HF.out.2.2.base_le (by omega), hblw⟩

end Go.Proofs.Ytljdnadejmkaeaa

/- order: large, bare, formed. -/
namespace Go.Proofs.Ytljdnadejmkaeaa
open Go.RowKit

theorem egOLarge1 : ∀ args w, (callFunc 125 args).run Try.prog w = .ok (.enter 125 args) w := fun _ _ => by kernel_rfl
theorem predWide (l : List RM) (w : World) : PredRM Try.prog 125 #[] Ord.wide l w := by
  rintro W m VA vc hm hb
  change Calls Try.prog 125 #[.agg #[.int .i64 m.cell.1, .int .i64 m.cell.2, .int .i64 m.kind, .int .i64 m.num, .slice VA m.vals.length vc]] W _
  go_enter Try.func125, Try.ntmps125
  go_wp2
  go_ret
  exact ⟨rfl, (Below.refl _ _).alloc (Nat.le_refl _) _⟩

set_option maxRecDepth 100000 in
theorem olarge_any (B sc mc : Nat) (SA MA : Option Addr) (x : RE) (w : World) (hm : At w B MA x.makes) (hB : B ≤ w.heap.size) (hml : x.makes.length ≤ 9223372036854775807) :
    Calls Try.prog 92 #[.agg #[.int .i64 x.at_, .int .i64 x.steps, .slice SA x.sets.length sc, .slice MA x.makes.length mc]] w fun e w' => e = .returned (.bool (Ord.large x)) ∧ Below w.heap.size w w' := by
  obtain ⟨Q, hQ⟩ : ∃ Q, Ord.large x = Q := ⟨_, rfl⟩
  rw [hQ]
  unfold Ord.large at hQ
  obtain ⟨q, hq⟩ : ∃ q, x.makes.any Ord.wide = q := ⟨_, rfl⟩
  rw [hq] at hQ
  have HQ := Lib.hid (And.intro hQ (And.intro hq hm)); clear hQ hq hm
  have hb1 : Below w.heap.size w (w.alloc (.cells #[.int .i64 x.at_, .int .i64 x.steps, .slice SA x.sets.length sc, .slice MA x.makes.length mc] 102)) := (Below.refl _ _).alloc (Nat.le_refl _) _
  cases d1 : (decide (60 < (x.sets.length : Int))) with
  | true =>
    have HZ := Lib.hid (show Q = true by rw [← HQ.out.1, d1]; rfl)
    go_enter Try.func92, Try.ntmps92
    go_wp2_with fail
    go_ret
    exact ⟨by rw [HZ.out]; rfl, hb1⟩
  | false =>
    cases d2 : (decide (300 < (x.makes.length : Int))) with
    | true =>
      have HZ := Lib.hid (show Q = true by rw [← HQ.out.1, d1, d2]; rfl)
      go_enter Try.func92, Try.ntmps92
      go_wp2_with fail
      go_ret
      exact ⟨by rw [HZ.out]; rfl, hb1⟩
    | false =>
      have HZ := Lib.hid (show Q = q by rw [← HQ.out.1, d1, d2]; rfl)
      go_enter Try.func92, Try.ntmps92
      go_wp2_with (go_at_call 124; refine (containsFuncRM_any MA mc B 125 #[] Ord.wide x.makes _ (HQ.out.2.2.alloc hB _) (by simp; omega) hml egOLarge1 (predWide x.makes _)).mono ?_; rintro e w1 ⟨rfl, hbw⟩; rw [HQ.out.2.1])
      go_ret
      exact ⟨by rw [HZ.out]; rfl, hb1.trans (hbw.mono (by simp))⟩

set_option maxRecDepth 100000 in
theorem bare_any (sc mc : Nat) (SA MA : Option Addr) (x : RE) (w : World) : Calls Try.prog 93 #[.agg #[.int .i64 x.at_, .int .i64 x.steps, .slice SA x.sets.length sc, .slice MA x.makes.length mc]] w fun e w' => e = .returned (.bool (Ord.bare x)) ∧ Below w.heap.size w w' := by
  obtain ⟨Q, hQ⟩ : ∃ Q, Ord.bare x = Q := ⟨_, rfl⟩
  rw [hQ]
  unfold Ord.bare at hQ
  have HQ := Lib.hid hQ; clear hQ
  have hb1 : Below w.heap.size w (w.alloc (.cells #[.int .i64 x.at_, .int .i64 x.steps, .slice SA x.sets.length sc, .slice MA x.makes.length mc] 102)) := (Below.refl _ _).alloc (Nat.le_refl _) _
  cases d1 : (x.at_ == 0) with
  | false =>
    go_enter Try.func93, Try.ntmps93
    go_wp2_with fail
    go_ret
    exact ⟨ret_bool (by rw [← HQ.out, d1] <;> rfl), hb1⟩
  | true =>
    cases d2 : (x.steps == 0) with
    | false =>
      go_enter Try.func93, Try.ntmps93
      go_wp2_with fail
      go_ret
      exact ⟨ret_bool (by rw [← HQ.out, d1, d2] <;> rfl), hb1⟩
    | true =>
      cases d3 : ((x.sets.length : Int) == 0) with
      | false =>
        go_enter Try.func93, Try.ntmps93
        go_wp2_with fail
        go_ret
        exact ⟨ret_bool (by rw [← HQ.out, d1, d2, d3] <;> rfl), hb1⟩
      | true =>
        cases d4 : ((x.makes.length : Int) == 0) with
        | false =>
          go_enter Try.func93, Try.ntmps93
          go_wp2_with fail
          go_ret
          exact ⟨ret_bool (by rw [← HQ.out, d1, d2, d3, d4] <;> rfl), hb1⟩
        | true =>
          go_enter Try.func93, Try.ntmps93
          go_wp2_with fail
          go_ret
          exact ⟨ret_bool (by rw [← HQ.out, d1, d2, d3, d4] <;> rfl), hb1⟩

theorem egFormed1 : ∀ args w, (callFunc 135 args).run Try.prog w = .ok (.enter 135 args) w := fun _ _ => by kernel_rfl
set_option maxRecDepth 100000 in
theorem predMakeBad (l : List RM) (w : World) : PredRM Try.prog 135 #[] Ord.makeBad l w := by
  rintro W m VA vc hm hb
  change Calls Try.prog 135 #[.agg #[.int .i64 m.cell.1, .int .i64 m.cell.2, .int .i64 m.kind, .int .i64 m.num, .slice VA m.vals.length vc]] W _
  obtain ⟨Q, hQ⟩ : ∃ Q, Ord.makeBad m = Q := ⟨_, rfl⟩
  rw [hQ]
  unfold Ord.makeBad at hQ
  have HQ := Lib.hid hQ; clear hQ
  have hb1 : Below W.heap.size W (W.alloc (.cells #[.int .i64 m.cell.1, .int .i64 m.cell.2, .int .i64 m.kind, .int .i64 m.num, .slice VA m.vals.length vc] 189)) := (Below.refl _ _).alloc (Nat.le_refl _) _
  cases d1 : (decide (m.kind < 1)) with
  | false =>
    cases d2 : (decide (3 < m.kind)) with
    | false =>
      cases d3 : (decide (m.num < 0)) with
      | false =>
        cases d4 : (decide (0 < m.num)) with
        | false =>
          go_enter Try.func135, Try.ntmps135
          go_wp2_with fail
          go_ret
          exact ⟨ret_bool (by rw [← HQ.out, d1, d2, d3, d4] <;> rfl), hb1⟩
        | true =>
          cases d5 : (m.kind != 1) with
          | false =>
            go_enter Try.func135, Try.ntmps135
            go_wp2_with fail
            go_ret
            exact ⟨ret_bool (by rw [← HQ.out, d1, d2, d3, d4, d5] <;> rfl), hb1⟩
          | true =>
            go_enter Try.func135, Try.ntmps135
            go_wp2_with fail
            go_ret
            exact ⟨ret_bool (by rw [← HQ.out, d1, d2, d3, d4, d5] <;> rfl), hb1⟩
      | true =>
        go_enter Try.func135, Try.ntmps135
        go_wp2_with fail
        go_ret
        exact ⟨ret_bool (by rw [← HQ.out, d1, d2, d3] <;> rfl), hb1⟩
    | true =>
      go_enter Try.func135, Try.ntmps135
      go_wp2_with fail
      go_ret
      exact ⟨ret_bool (by rw [← HQ.out, d1, d2] <;> rfl), hb1⟩
  | true =>
    go_enter Try.func135, Try.ntmps135
    go_wp2_with fail
    go_ret
    exact ⟨ret_bool (by rw [← HQ.out, d1] <;> rfl), hb1⟩

theorem egFormed2 : ∀ args w, (callFunc 136 args).run Try.prog w = .ok (.enter 136 args) w := fun _ _ => by kernel_rfl
set_option maxRecDepth 100000 in
theorem predPlaceBad (G : Nat) (slots : Int) (l : List (Int × Int)) (w : World) (hG : Blk w G 3 #[.int .i64 slots]) : PredRP Try.prog 136 #[.pointer (some ⟨G, 0, none⟩)] (fun p => !Ord.placeOk slots p) l w := by
  rintro W ⟨p, q⟩ hm hok hb
  change Calls Try.prog 136 #[.agg #[.int .i64 p, .int .i64 q], .pointer (some ⟨G, 0, none⟩)] W _
  have g0 := (hG.fresh hb).cell 0 (v := .int .i64 slots) rfl
  have ltG : G < W.heap.size := (hG.fresh hb).lt
  obtain ⟨Q, hQ⟩ : ∃ Q, (!Ord.placeOk slots (p, q)) = Q := ⟨_, rfl⟩
  show Calls _ _ _ _ fun e W' => e = .returned (.bool (!Ord.placeOk slots (p, q))) ∧ _
  rw [hQ]
  unfold Ord.placeOk at hQ
  simp only at hQ
  have HQ := Lib.hid hQ; clear hQ hG hb hok hm
  have hb1 : Below W.heap.size W (W.alloc (.cells #[.int .i64 p, .int .i64 q] 90)) := (Below.refl _ _).alloc (Nat.le_refl _) _
  cases d1 : (q == -1) with
  | false =>
    cases d3 : (p == -1) with
    | false =>
      go_enter Try.func136, Try.ntmps136
      go_wp2_with (go_at_call 133; refine (isReg_any p _).mono ?_; rintro e w5 ⟨he5, rfl⟩; rw [d2] at he5; subst he5)
      go_ret
      exact ⟨ret_bool (by rw [← HQ.out, d1, d3] <;> rfl), hb1⟩
    | true =>
      cases d4 : (decide (0 ≤ q)) with
      | false =>
        go_enter Try.func136, Try.ntmps136
        go_wp2_with (go_at_call 133; refine (isReg_any p _).mono ?_; rintro e w5 ⟨he5, rfl⟩; rw [d2] at he5; subst he5)
        go_ret
        exact ⟨ret_bool (by rw [← HQ.out, d1, d3, d4] <;> rfl), hb1⟩
      | true =>
        cases d5 : (decide (q < slots)) with
        | false =>
          go_enter Try.func136, Try.ntmps136
          go_wp2_with (go_at_call 133; refine (isReg_any p _).mono ?_; rintro e w5 ⟨he5, rfl⟩; rw [d2] at he5; subst he5)
          go_ret
          exact ⟨ret_bool (by rw [← HQ.out, d1, d3, d4, d5] <;> rfl), hb1⟩
        | true =>
          go_enter Try.func136, Try.ntmps136
          go_wp2_with (go_at_call 133; refine (isReg_any p _).mono ?_; rintro e w5 ⟨he5, rfl⟩; rw [d2] at he5; subst he5)
          go_ret
          exact ⟨ret_bool (by rw [← HQ.out, d1, d3, d4, d5] <;> rfl), hb1⟩
  | true =>
    cases d2 : (Ord.isReg p) with
    | false =>
      cases d3 : (p == -1) with
      | false =>
        go_enter Try.func136, Try.ntmps136
        go_wp2_with (go_at_call 133; refine (isReg_any p _).mono ?_; rintro e w5 ⟨he5, rfl⟩; rw [d2] at he5; subst he5)
        go_ret
        exact ⟨ret_bool (by rw [← HQ.out, d1, d2, d3] <;> rfl), hb1⟩
      | true =>
        cases d4 : (decide (0 ≤ q)) with
        | false =>
          go_enter Try.func136, Try.ntmps136
          go_wp2_with (go_at_call 133; refine (isReg_any p _).mono ?_; rintro e w5 ⟨he5, rfl⟩; rw [d2] at he5; subst he5)
          go_ret
          exact ⟨ret_bool (by rw [← HQ.out, d1, d2, d3, d4] <;> rfl), hb1⟩
        | true =>
          cases d5 : (decide (q < slots)) with
          | false =>
            go_enter Try.func136, Try.ntmps136
            go_wp2_with (go_at_call 133; refine (isReg_any p _).mono ?_; rintro e w5 ⟨he5, rfl⟩; rw [d2] at he5; subst he5)
            go_ret
            exact ⟨ret_bool (by rw [← HQ.out, d1, d2, d3, d4, d5] <;> rfl), hb1⟩
          | true =>
            go_enter Try.func136, Try.ntmps136
            go_wp2_with (go_at_call 133; refine (isReg_any p _).mono ?_; rintro e w5 ⟨he5, rfl⟩; rw [d2] at he5; subst he5)
            go_ret
            exact ⟨ret_bool (by rw [← HQ.out, d1, d2, d3, d4, d5] <;> rfl), hb1⟩
    | true =>
      go_enter Try.func136, Try.ntmps136
      go_wp2_with (go_at_call 133; refine (isReg_any p _).mono ?_; rintro e w5 ⟨he5, rfl⟩; rw [d2] at he5; subst he5)
      go_ret
      exact ⟨ret_bool (by rw [← HQ.out, d1, d2] <;> rfl), hb1⟩

end Go.Proofs.Ytljdnadejmkaeaa

/- order.formed. -/
namespace Go.Proofs.Ytljdnadejmkaeaa
open Go.RowKit

theorem Ord.places_ok {w : World} {B : Nat} {As Am : Option Addr} {x : RE} (hs : At w B As x.sets) (hm : At w B Am x.makes) : ∀ z ∈ Ord.places x, Flat.ok z := by
  intro z hz
  unfold Ord.places at hz
  rw [List.mem_append] at hz
  rcases hz with hz | hz
  · obtain ⟨p, hp, rfl⟩ := List.mem_map.1 hz
    exact (hs.ok_ p hp).2
  · obtain ⟨m, hm', hz⟩ := List.mem_flatMap.1 hz
    obtain ⟨i, hi⟩ := List.mem_iff_getElem?.1 hm'
    obtain ⟨b, o, m2, VA, vc, -, -, hx, -, -, -, -, -, av, -, j0, j1, -⟩ := hm.rM_ (List.getElem?_eq_some_iff.1 hi).1
    obtain rfl : m2 = m := Option.some.inj (hx.symm.trans hi)
    rcases List.mem_cons.1 hz with rfl | hz
    · exact ⟨j0, j1⟩
    · exact av.ok_ z hz
theorem Ord.rising_step {l : List (Int × Int × Int)} {k : Nat} {s : Int × Int × Int} (h : l[k]? = some s) (last : Int) : Ord.risingR last (l.drop k) = (!(decide (s.1 ≤ last) || decide (60 ≤ s.1)) && Ord.risingR s.1 (l.drop (k + 1))) := by
  have hk := (List.getElem?_eq_some_iff.1 h).1
  rw [List.drop_eq_getElem_cons hk]
  have : l[k] = s := (List.getElem?_eq_some_iff.1 h).2
  rw [this]; rfl

set_option maxHeartbeats 1600000 in
set_option maxRecDepth 100000 in
theorem formed_any (B sc mc N : Nat) (SA MA : Option Addr) (x : RE) (slots : Int) (w : World) (hs : At w B SA x.sets) (hm : At w B MA x.makes) (hB : B ≤ w.heap.size) (hN : (Ord.places x).length = N) (hNb : N * 16 ≤ 140737488355328) :
    Calls Try.prog 97 #[.agg #[.int .i64 x.at_, .int .i64 x.steps, .slice SA x.sets.length sc, .slice MA x.makes.length mc], .int .i64 slots] w fun e w' => e = .returned (.bool (Ord.formed slots x)) ∧ Below w.heap.size w w' := by
  obtain ⟨Q, hQ⟩ : ∃ Q, Ord.formed slots x = Q := ⟨_, rfl⟩
  rw [hQ]
  obtain ⟨b1, hb1⟩ : ∃ b, Ord.numsBad x = b := ⟨_, rfl⟩
  obtain ⟨br, hbr⟩ : ∃ b, Ord.risingR (-1) x.sets = b := ⟨_, rfl⟩
  obtain ⟨bm, hbm⟩ : ∃ b, x.makes.any Ord.makeBad = b := ⟨_, rfl⟩
  obtain ⟨bp, hbp⟩ : ∃ b, ((Ord.places x).any fun p => !Ord.placeOk slots p) = b := ⟨_, rfl⟩
  unfold Ord.formed at hQ
  rw [hb1, hbr, hbm, hbp] at hQ
  unfold Ord.numsBad at hb1
  have hpl := Ord.places_sets x
  have hpm := Ord.places_makes x
  rw [hN] at hpl hpm
  have HQ := Lib.hid (And.intro hQ (And.intro hbr (And.intro hbm hbp))); clear hQ hbr hbm hbp
  have HB1 := Lib.hid hb1; clear hb1
  have hok := Ord.places_ok hs hm
  have H := Lib.hid (And.intro hs (And.intro hm (And.intro hN hok))); clear hs hm hN hok
  go_enter Try.func97, Try.ntmps97
  go_upto_region 1 with fail
  refine wp_world (fun W => Blk W w.heap.size 102 #[.int .i64 x.at_, .int .i64 x.steps, .slice SA x.sets.length sc, .slice MA x.makes.length mc] ∧ Blk W (w.heap.size + 1) 3 #[.int .i64 slots] ∧ Below w.heap.size w W ∧ w.heap.size + 2 ≤ W.heap.size) ⟨(Blk.new _ _ _).alloc _, Blk.at_ _ _ _ (by simp), ((Below.refl _ _).alloc (Nat.le_refl _) _).alloc (by simp) _, by simp⟩ ?_
  rintro W ⟨hX, hG, hb0, hs0⟩
  have x0 := hX.cell 0 (v := .int .i64 x.at_) rfl
  have x1 := hX.cell 1 (v := .int .i64 x.steps) rfl
  have HX := Lib.hid (And.intro hX hG); clear hX hG
  go_cut [20] (fun ov W2 => ov = .bool b1 ∧ W2 = W)
  case first =>
    cases d1 : (decide (x.at_ < 0)) with
    | false =>
      cases d2 : (decide (x.steps < 0)) with
      | false =>
        cases d3 : (decide (200 < x.steps)) with
        | false =>
          go_wp2_with fail
          go_meet
          exact ⟨by rw [← HB1.out, d1, d2, d3] <;> rfl, rfl⟩
        | true =>
          go_wp2_with fail
          go_meet
          exact ⟨by rw [← HB1.out, d1, d2, d3] <;> rfl, rfl⟩
      | true =>
        go_wp2_with fail
        go_meet
        exact ⟨by rw [← HB1.out, d1, d2] <;> rfl, rfl⟩
    | true =>
      go_wp2_with fail
      go_meet
      exact ⟨by rw [← HB1.out, d1] <;> rfl, rfl⟩
  case rest =>
    obtain ⟨rfl, hwc⟩ := hcut
    have hwc2 := hwc.symm
    subst hwc2
    clear hwc
    cases b1 with
    | true =>
      go_wp2_with fail
      go_ret
      exact ⟨ret_bool HQ.out.1, hb0⟩
    | false =>
      have x2 := HX.out.1.cell 2 (v := .slice SA x.sets.length sc) rfl
      have ltW : w.heap.size < W.heap.size := by omega
      clear x0 x1
      go_wp2_with fail
      clear x2
      go_loopg [5, 24] (x.sets.length) (fun gk lv iv wr => ∃ (k : Nat) (last : Int), k ≤ x.sets.length ∧ gk = x.sets.length - k ∧ iv = .int .i64 k ∧ lv = .int .i64 last ∧ Hid (Ord.risingR last (x.sets.drop k) = br) ∧ Below W.heap.size W wr)
      case atStart => exact ⟨0, -1, Nat.zero_le _, rfl, rfl, rfl, HQ.out.2.1, Below.refl _ _⟩
      case round =>
        obtain ⟨k, last, hk, rfl, rfl, rfl, hkeep, hbl⟩ := hrel
        have hsz := hbl.size
        have hbw : Below w.heap.size w wr := hb0.trans (hbl.mono (by omega))
        by_cases hlt : k < x.sets.length
        · obtain ⟨b, o, a0, a1, a2, rfl, hb, hx, -, -, -, d0, d1, d2⟩ := (H.out.1.below (hbw.mono hB)).trip hlt
          have hst := Ord.rising_step hx last
          rw [hkeep.out] at hst
          simp only at hst
          have hk0 : (0 : Int) ≤ (k : Int) := by omega
          have hk1 : (k : Int) < (x.sets.length : Int) := by omega
          have HS := Lib.hid hst; clear hst hx hkeep
          by_cases c1 : a0 ≤ last
          · have hr : br = false := by rw [HS.out, decide_eq_true c1]; rfl
            have hq : Q = false := by rw [← HQ.out.1, hr]; rfl
            have HZ := Lib.hid hq; clear hq hr
            go_wp2_with fail
            go_ret
            exact ⟨by rw [HZ.out]; rfl, hbw.alloc (by omega) _⟩
          · by_cases c2 : 60 ≤ a0
            · have hr : br = false := by rw [HS.out, decide_eq_false c1, decide_eq_true c2]; rfl
              have hq : Q = false := by rw [← HQ.out.1, hr]; rfl
              have HZ := Lib.hid hq; clear hq hr
              go_wp2_with fail
              go_ret
              exact ⟨by rw [HZ.out]; rfl, hbw.alloc (by omega) _⟩
            · have hr : Ord.risingR a0 (x.sets.drop (k + 1)) = br := by rw [HS.out, decide_eq_false c1, decide_eq_false c2]; rfl
              have HZ := Lib.hid hr; clear hr
              go_wp2_with fail
              go_roundg (x.sets.length - (k + 1))
              case measure => omega
              case rel => exact ⟨k + 1, a0, by omega, rfl, by go_num, rfl, HZ.out, hbl.alloc (by omega) _⟩
        · have hr : br = true := by have h := hkeep.out; rw [List.drop_eq_nil_of_le (by omega)] at h; rw [← h]; rfl
          subst hr
          have HXr := Lib.hid (And.intro (HX.out.1.fresh hbl) (HX.out.2.fresh hbl))
          have x3 := HXr.out.1.cell 3 (v := .slice MA x.makes.length mc) rfl
          have ltr : w.heap.size < wr.heap.size := by omega
          have HA := Lib.hid (And.intro (H.out.1.below (hbw.mono hB)) (H.out.2.1.below (hbw.mono hB)))
          clear hkeep
          go_wp2_with fail
          refine (containsFuncRM_any MA mc B 135 #[] Ord.makeBad x.makes wr HA.out.2 (by omega) (by omega) egFormed1 (predMakeBad x.makes _)).mono ?_
          rintro e w1 ⟨rfl, hb1⟩
          rw [HQ.out.2.2.1]
          have hs1 := hb1.size
          have hbw1 : Below w.heap.size w w1 := hbw.trans (hb1.mono (by omega))
          clear x3
          cases bm with
          | true =>
            go_wp2_with fail
            go_ret
            exact ⟨ret_bool HQ.out.1, hbw1⟩
          | false =>
            have hX1 := HXr.out.1.fresh hb1
            have lt1 : w.heap.size + 1 < w1.heap.size := by omega
            have HY := Lib.hid (And.intro hX1 (And.intro (HXr.out.2.fresh hb1) (And.intro (HA.out.1.below (hb1.mono (by omega))) (HA.out.2.below (hb1.mono (by omega)))))); clear hX1
            go_wp2_with (refine wpList_ld rfl 102 (.tmp 2) rfl w.heap.size rfl HY.out.1 Try.underlying102 rfl (by kernel_rfl) ?_)
            refine (places_any B sc mc N SA MA x w1 HY.out.2.2.1 HY.out.2.2.2 (by omega) H.out.2.2.1 hNb).mono ?_
            rintro e w2 ⟨PA, pd, rfl, ho2, hb2⟩
            have hs2 := hb2.size
            have H2 := Lib.hid (And.intro (ho2.at_ H.out.2.2.2) (HY.out.2.1.fresh hb2)); clear ho2
            go_wp2_with fail
            refine (containsFuncRP_any PA pd w2.heap.size 136 N #[.pointer (some ⟨w.heap.size + 1, 0, none⟩)] (fun p => !Ord.placeOk slots p) (Ord.places x) w2 H.out.2.2.1 H2.out.1 (Nat.le_refl _) (by omega) egFormed2 (predPlaceBad (w.heap.size + 1) slots _ _ H2.out.2)).mono ?_
            rintro e w3 ⟨rfl, hb3⟩
            rw [HQ.out.2.2.2]
            go_wp2_with fail
            go_ret
            exact ⟨ret_bool HQ.out.1, (hbw1.trans (hb2.mono (by omega))).trans (hb3.mono (by omega))⟩

end Go.Proofs.Ytljdnadejmkaeaa

/- A region that draws, its operations taken one by one: one that is run in whatever order, one that a guard leaves out, one call. No program is named here. -/
namespace Go.Proofs.Ytljdnadejmkaeaa
open Go.RowKit

section
variable {P : Program} {ops : Array Oper} {Q : Exit → Act → World → Prop} {md : Region.Mode} {S : World → Prop} {fuel : Nat} {listed : Array Bool} {a : Act} {w : World}
theorem oi_of {i : Nat} {o : Oper} (h : ops.toList[i]? = some o) : ops[i]? = some o := by rw [← Array.getElem?_toList]; exact h
theorem held_take (i : Nat) {oi : Oper} {v : Value} (hi : ops.toList[i]? = some oi) (hs : Region.noSelect ops = true) (hf : Region.free md ops listed i = true) (hr : (Region.ready md ops listed).contains i = true)
    (hQ : ∀ c a w, Q (.panic c) (a.put oi.dst v) w → Q (.panic c) a w) (hw : Region.wanted oi (yielded ops a.tmps) = true) (hv : ∀ w, S w → (execOp a.eval oi).run P w = .ok (.value v) w) (hS : S w)
    (h : wpAnyH P md ops Q S fuel (listed.setIfInBounds i true) (a.put oi.dst v) w) : wpAnyH P md ops Q S (fuel + 1) listed a w := wpAnyH_take (oi_of hi) hs hf hr hQ (.inl ⟨hw, hv⟩) hS h
theorem held_skip (i : Nat) {oi : Oper} (hi : ops.toList[i]? = some oi) (hs : Region.noSelect ops = true) (hf : Region.free md ops listed i = true) (hr : (Region.ready md ops listed).contains i = true)
    (hQ : ∀ c a w, Q (.panic c) (a.put oi.dst undef) w → Q (.panic c) a w) (hw : Region.wanted oi (yielded ops a.tmps) = false) (hS : S w)
    (h : wpAnyH P md ops Q S fuel (listed.setIfInBounds i true) (a.put oi.dst undef) w) : wpAnyH P md ops Q S (fuel + 1) listed a w := wpAnyH_take (oi_of hi) hs hf hr hQ (.inr ⟨hw, rfl⟩) hS h
theorem held_call (i : Nat) {oi : Oper} (hr : Region.ready md ops listed = [i]) (hi : ops.toList[i]? = some oi)
    (h : ∀ K' : Act → World → Prop, Shut (∀ a w, S w → (S w → wpAnyH P md ops Q S fuel (listed.setIfInBounds i true) a w) → K' a w) → if Region.wanted oi (yielded ops a.tmps) = true then Oper.wp P oi a w K' Q else K' (a.put oi.dst undef) w) :
    wpAnyH P md ops Q S (fuel + 1) listed a w := wpAnyH_ready hr (by simp) (AllReadyH.cons (oi_of hi) h AllReadyH.nil)
end

end Go.Proofs.Ytljdnadejmkaeaa

/- A region that draws, where two operations are ready at once: both orders. No program is named here. -/
namespace Go.Proofs.Ytljdnadejmkaeaa
open Go.RowKit

section
variable {P : Program} {ops : Array Oper} {Q : Exit → Act → World → Prop} {md : Region.Mode} {S : World → Prop} {fuel : Nat} {listed : Array Bool} {a : Act} {w : World}
theorem held_call2 (i j : Nat) {oi oj : Oper} (hr : Region.ready md ops listed = [i, j]) (hi : ops.toList[i]? = some oi) (hj : ops.toList[j]? = some oj)
    (h1 : ∀ K' : Act → World → Prop, Shut (∀ a w, S w → (S w → wpAnyH P md ops Q S fuel (listed.setIfInBounds i true) a w) → K' a w) → if Region.wanted oi (yielded ops a.tmps) = true then Oper.wp P oi a w K' Q else K' (a.put oi.dst undef) w)
    (h2 : ∀ K' : Act → World → Prop, Shut (∀ a w, S w → (S w → wpAnyH P md ops Q S fuel (listed.setIfInBounds j true) a w) → K' a w) → if Region.wanted oj (yielded ops a.tmps) = true then Oper.wp P oj a w K' Q else K' (a.put oj.dst undef) w) :
    wpAnyH P md ops Q S (fuel + 1) listed a w := wpAnyH_ready hr (by simp) (AllReadyH.cons (oi_of hi) h1 (AllReadyH.cons (oi_of hj) h2 AllReadyH.nil))
theorem held_world (p : World → Prop) (h0 : p w) (h : ∀ w, p w → wpAnyH P md ops Q S fuel listed a w) : wpAnyH P md ops Q S fuel listed a w := h w h0
end

end Go.Proofs.Ytljdnadejmkaeaa

/- order: what is written: has, all. -/
namespace Go.Proofs.Ytljdnadejmkaeaa
open Go.RowKit

/-- the cells of what is written: registers, the slots' slice -/
def wrC (regs : List Bool) (A : Option Addr) (n c : Nat) : Array Value := (regs.map Value.bool ++ [Value.slice A n c]).toArray
theorem wrC_reg {regs : List Bool} {A : Option Addr} {n c i : Nat} {b : Bool} (h : regs[i]? = some b) : (wrC regs A n c)[i]? = some (.bool b) := by
  have hi := (List.getElem?_eq_some_iff.1 h).1
  unfold wrC
  rw [List.getElem?_toArray, List.getElem?_append_left (by simpa using hi), List.getElem?_map, h]; rfl
theorem wrC_slots {regs : List Bool} {A : Option Addr} {n c : Nat} (h : regs.length = 8) : (wrC regs A n c)[8]? = some (.slice A n c) := by
  unfold wrC
  rw [List.getElem?_toArray, List.getElem?_append_right (by simp [h])]; simp [h]
theorem wrC_set {regs : List Bool} {A : Option Addr} {n c i : Nat} (h : regs.length = 8) (hi : i < 8) (b : Bool) : (wrC regs A n c).setIfInBounds i (.bool b) = wrC (regs.set i b) A n c := by
  unfold wrC
  rw [List.setIfInBounds_toArray, List.set_append_left _ _ (by simp [h]; exact hi), List.map_set]
def Ws (w : World) (base G : Nat) (st : Ord.St) : Prop :=
  ∃ (A : Option Addr) (c : Nat), Blk w G 159 (wrC st.regs A st.slots.length c) ∧ Own w base 4 A c st.slots ∧ st.regs.length = 8
section
variable {w w' : World} {base G : Nat} {st : Ord.St}
theorem Ws.lt (h : Ws w base G st) : G < w.heap.size := by obtain ⟨A, c, h1, -⟩ := h; exact h1.lt
theorem Ws.fresh (h : Ws w base G st) (hb : Below w.heap.size w w') : Ws w' base G st := by obtain ⟨A, c, h1, h2, h3⟩ := h; exact ⟨A, c, h1.fresh hb, h2.fresh hb, h3⟩
theorem Ws.alloc (h : Ws w base G st) (o : Obj) : Ws (w.alloc o) base G st := by obtain ⟨A, c, h1, h2, h3⟩ := h; exact ⟨A, c, h1.alloc o, h2.alloc o, h3⟩
theorem Ws.drew (h : Ws w base G st) : Ws w.drew base G st := h
end

set_option maxHeartbeats 1600000 in
set_option maxRecDepth 100000 in
theorem has_any (base G : Nat) (st : Ord.St) (p q : Int) (w : World) (h : Ws w base G st) : Calls Try.prog 129 #[.pointer (some ⟨G, 0, none⟩), .agg #[.int .i64 p, .int .i64 q]] w fun e w' => e = .returned (.bool (Ord.has st (p, q))) ∧ Below w.heap.size w w' := by
  obtain ⟨Q, hQ⟩ : ∃ Q, Ord.has st (p, q) = Q := ⟨_, rfl⟩
  rw [hQ]
  obtain ⟨bR, hbR⟩ : ∃ b, Ord.hasR (p, q) = b := ⟨_, rfl⟩
  obtain ⟨n, hn⟩ : ∃ n, st.slots.length = n := ⟨_, rfl⟩
  obtain ⟨bS, hbS⟩ : ∃ b, Ord.hasS n (p, q) = b := ⟨_, rfl⟩
  unfold Ord.has at hQ
  rw [hn, hbR, hbS] at hQ
  have hq1 : bR = true → q = -1 ∧ 0 ≤ p ∧ p < 8 := fun hh => by rw [hh] at hbR; simpa [Ord.hasR, and_assoc] using hbR
  have hq2 : bS = true → p = -1 ∧ 0 ≤ q ∧ q < n := fun hh => by rw [hh] at hbS; simpa [Ord.hasS, and_assoc] using hbS
  unfold Ord.hasR at hbR; unfold Ord.hasS at hbS
  simp only at hbR hbS hQ
  obtain ⟨A, c, hG, hO, h8⟩ := h
  rw [hn] at hG
  have HQ := Lib.hid (And.intro hQ (And.intro hbR hbS)); clear hQ hbR hbS
  have ltG := hG.lt
  have H := Lib.hid (And.intro (hG.alloc (.cells #[.int .i64 p, .int .i64 q] 90)) (And.intro (hO.alloc (.cells #[.int .i64 p, .int .i64 q] 90)) (And.intro h8 hn))); clear hG hO h8 hn
  have H1 := Lib.hid (And.intro hq1 hq2); clear hq1 hq2
  have hb0 : Below w.heap.size w (w.alloc (.cells #[.int .i64 p, .int .i64 q] 90)) := (Below.refl _ _).alloc (Nat.le_refl _) _
  have hX := Blk.new w 90 #[.int .i64 p, .int .i64 q]
  go_enter Try.func129, Try.ntmps129
  go_upto_region 1 with fail
  have hs0 : (w.alloc (.cells #[.int .i64 p, .int .i64 q] 90)).heap.size = w.heap.size + 1 := by simp
  obtain ⟨W, hW⟩ : ∃ W, w.alloc (.cells #[.int .i64 p, .int .i64 q] 90) = W := ⟨_, rfl⟩
  rw [hW] at H hb0 hX hs0 ⊢
  clear hW
  have x0 := hX.cell 0 (v := .int .i64 p) rfl
  have x1 := hX.cell 1 (v := .int .i64 q) rfl
  have ltW : w.heap.size < W.heap.size := by omega
  have ltGW : G < W.heap.size := by omega
  clear hX hs0
  go_cut [5] (fun ov W2 => ov = .bool bR ∧ W2 = W)
  case first =>
    cases d1 : (q == -1) with
    | false =>
      go_wp2_with fail
      go_meet
      exact ⟨by rw [← HQ.out.2.1, d1] <;> rfl, rfl⟩
    | true =>
      cases d2 : (decide (0 ≤ p)) with
      | false =>
        go_wp2_with fail
        go_meet
        exact ⟨by rw [← HQ.out.2.1, d1, d2] <;> rfl, rfl⟩
      | true =>
        cases d3 : (decide (p < 8)) with
        | false =>
          go_wp2_with fail
          go_meet
          exact ⟨by rw [← HQ.out.2.1, d1, d2, d3] <;> rfl, rfl⟩
        | true =>
          go_wp2_with fail
          go_meet
          exact ⟨by rw [← HQ.out.2.1, d1, d2, d3] <;> rfl, rfl⟩
  case rest =>
    obtain ⟨rfl, hwc⟩ := hcut
    have hwc2 := hwc.symm
    subst hwc2
    clear hwc
    cases bR with
    | true =>
      obtain ⟨rfl, hp0, hp8⟩ := H1.out.1 rfl
      obtain ⟨r, rfl⟩ := Int.eq_ofNat_of_zero_le hp0
      obtain ⟨b, hb⟩ : ∃ b, st.regs[r]? = some b := ⟨_, List.getElem?_eq_getElem (by have := H.out.2.2.1; omega)⟩
      have g0 := H.out.1.cell r (wrC_reg hb)
      have hQb : Q = b := by rw [← HQ.out.1, if_pos rfl, Int.toNat_natCast, List.getD_eq_getElem?_getD, hb]; rfl
      have HZ := Lib.hid hQb; clear hQb hb
      go_wp2_with fail
      go_quiet (fail)
      go_wp2_with fail
      go_ret
      exact ⟨by rw [HZ.out]; rfl, below_drewN hb0 _⟩
    | false =>
      have g8 := H.out.1.cell 8 (wrC_slots H.out.2.2.1)
      go_upto_region 3 with fail
      go_cut [26] (fun ov W2 => ov = .bool bS ∧ ∃ nq, W2 = W.drewN nq)
      case first =>
        cases d1 : (p == -1) with
        | false =>
          go_quiet (fail)
          go_wp2_with fail
          go_meet
          exact ⟨by rw [← HQ.out.2.2, d1] <;> rfl, _, rfl⟩
        | true =>
          cases d2 : (decide (0 ≤ q)) with
          | false =>
            go_quiet (fail)
            go_wp2_with fail
            go_meet
            exact ⟨by rw [← HQ.out.2.2, d1, d2] <;> rfl, _, rfl⟩
          | true =>
            cases d3 : (decide (q < (n : Int))) with
            | false =>
              go_quiet (fail)
              go_wp2_with fail
              go_meet
              exact ⟨by rw [← HQ.out.2.2, d1, d2, d3] <;> rfl, _, rfl⟩
            | true =>
              go_quiet (fail)
              go_wp2_with fail
              go_meet
              exact ⟨by rw [← HQ.out.2.2, d1, d2, d3] <;> rfl, _, rfl⟩
      case rest =>
        obtain ⟨rfl, nq0, hwc⟩ := hcut
        cases bS with
        | true =>
          obtain ⟨rfl, hp0, hp8⟩ := H1.out.2 rfl
          obtain ⟨r, rfl⟩ := Int.eq_ofNat_of_zero_le hp0
          obtain ⟨b, hb⟩ : ∃ b, st.slots[r]? = some b := ⟨_, List.getElem?_eq_getElem (by have := H.out.2.2.2; omega)⟩
          obtain ⟨gs, rfl, hs1, hs2⟩ := H.out.2.1.some_ (by have := H.out.2.2.2; omega)
          have k0 := H.out.2.1.cell_bool hb
          have hQb : Q = b := by rw [← HQ.out.1, if_neg (by decide), if_pos rfl, Int.toNat_natCast, List.getD_eq_getElem?_getD, hb]; rfl
          have HZ := Lib.hid hQb; clear hQb hb
          rw [hwc]
          clear hwc
          go_wp2_with fail
          go_quiet (fail)
          go_wp2_with fail
          go_ret
          exact ⟨by rw [HZ.out]; rfl, below_drewN (below_drewN hb0 _) _⟩
        | false =>
          rw [hwc]
          clear hwc
          go_wp2_with fail
          go_ret
          exact ⟨ret_bool HQ.out.1, below_drewN hb0 _⟩

theorem egAll1 : ∀ args w, (callFunc 128 args).run Try.prog w = .ok (.enter 128 args) w := fun _ _ => by kernel_rfl
set_option maxRecDepth 100000 in
theorem predHas (base G GP : Nat) (st : Ord.St) (l : List (Int × Int)) (w : World) (h : Ws w base G st) (hP : Blk w GP 155 #[.pointer (some ⟨G, 0, none⟩)]) : PredRP Try.prog 128 #[.pointer (some ⟨GP, 0, none⟩)] (fun p => !Ord.has st p) l w := by
  rintro W ⟨p, q⟩ hm hok hb
  change Calls Try.prog 128 #[.agg #[.int .i64 p, .int .i64 q], .pointer (some ⟨GP, 0, none⟩)] W _
  have g0 := (hP.fresh hb).cell 0 (v := .pointer (some ⟨G, 0, none⟩)) rfl
  have ltG := (hP.fresh hb).lt
  have hW := (h.fresh hb).alloc (.cells #[.int .i64 p, .int .i64 q] 90)
  have HW := Lib.hid hW; clear hW h hP hm hok hb
  show Calls _ _ _ _ fun e W' => e = .returned (.bool (!Ord.has st (p, q))) ∧ _
  obtain ⟨Q, hQ⟩ : ∃ Q, Ord.has st (p, q) = Q := ⟨_, rfl⟩
  rw [hQ]
  have HQ := Lib.hid hQ; clear hQ
  go_enter Try.func128, Try.ntmps128
  go_wp2_with fail
  refine (has_any base G st p q _ HW.out).mono ?_
  rintro e w1 ⟨rfl, hb1⟩
  rw [HQ.out]
  go_wp2_with fail
  go_ret
  exact ⟨rfl, ((Below.refl _ _).alloc (Nat.le_refl _) _).trans (hb1.mono (by simp))⟩

set_option maxHeartbeats 800000 in
set_option maxRecDepth 100000 in
theorem all_any (base G B sc mc N : Nat) (SA MA : Option Addr) (st : Ord.St) (x : RE) (w : World) (h : Ws w base G st) (hs : At w B SA x.sets) (hm : At w B MA x.makes) (hB : B ≤ w.heap.size) (hN : (Ord.places x).length = N) (hNb : N * 16 ≤ 140737488355328) :
    Calls Try.prog 94 #[.pointer (some ⟨G, 0, none⟩), .agg #[.int .i64 x.at_, .int .i64 x.steps, .slice SA x.sets.length sc, .slice MA x.makes.length mc]] w fun e w' => e = .returned (.bool (Ord.all_ st x)) ∧ Below w.heap.size w w' := by
  have hok := Ord.places_ok hs hm
  have H := Lib.hid (And.intro h (And.intro hs (And.intro hm (And.intro hN hok)))); clear h hs hm hN hok
  obtain ⟨Q, hQ⟩ : ∃ Q, ((Ord.places x).any fun p => !Ord.has st p) = Q := ⟨_, rfl⟩
  have hA : Ord.all_ st x = !Q := by unfold Ord.all_; rw [hQ]
  rw [hA]
  have HQ := Lib.hid hQ; clear hQ hA
  go_enter Try.func94, Try.ntmps94
  go_wp2_with fail
  refine calls_world (fun W => Blk W w.heap.size 155 #[.pointer (some ⟨G, 0, none⟩)] ∧ Blk W (w.heap.size + 1) 102 #[.int .i64 x.at_, .int .i64 x.steps, .slice SA x.sets.length sc, .slice MA x.makes.length mc] ∧ Below w.heap.size w W ∧ w.heap.size + 2 ≤ W.heap.size) ⟨(Blk.new _ _ _).alloc _, Blk.at_ _ _ _ (by simp), ((Below.refl _ _).alloc (Nat.le_refl _) _).alloc (by simp) _, by simp⟩ ?_
  rintro W ⟨hP, hX, hb0, hs0⟩
  refine (places_any B sc mc N SA MA x W (H.out.2.1.below (hb0.mono hB)) (H.out.2.2.1.below (hb0.mono hB)) (by omega) H.out.2.2.2.1 hNb).mono ?_
  rintro e w1 ⟨PA, pd, rfl, ho1, hb1⟩
  have hs1 := hb1.size
  have hbl := hb0.trans (hb1.mono (by omega))
  have H1 := Lib.hid (And.intro (ho1.at_ H.out.2.2.2.2) (And.intro (H.out.1.fresh hbl) (hP.fresh hb1))); clear ho1 hP hX
  go_wp2_with fail
  refine (containsFuncRP_any PA pd w1.heap.size 128 N #[.pointer (some ⟨w.heap.size, 0, none⟩)] (fun p => !Ord.has st p) (Ord.places x) w1 H.out.2.2.2.1 H1.out.1 (Nat.le_refl _) (by omega) egAll1 (predHas base G w.heap.size st _ _ H1.out.2.1 H1.out.2.2)).mono ?_
  rintro e w2 ⟨rfl, hb2⟩
  rw [HQ.out]
  go_wp2_with fail
  go_ret
  exact ⟨rfl, hbl.trans (hb2.mono (by omega))⟩

end Go.Proofs.Ytljdnadejmkaeaa
