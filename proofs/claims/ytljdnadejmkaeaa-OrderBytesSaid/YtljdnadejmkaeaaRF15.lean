/- RF: Ord5. -/
import Derived.Test.YtljdnadejmkaeaaRF8
import Derived.Test.YtljdnadejmkaeaaRF9
import Derived.Test.YtljdnadejmkaeaaRF14
import Derived.Deep.DeepCutAuto
/- order: is an order right by itself? -/
namespace Go.Proofs.Ytljdnadejmkaeaa
open Go.RowKit

theorem box_bad (k : Int × Int) : ((boxL k.1 k.2).2 != 0) = Ord.boxBad k := by
  obtain ⟨k, n⟩ := k
  unfold boxL Ord.boxBad
  rw [show (if k = 2 then -2147483648 else 0) = lowk k from rfl, show (if k = 0 then 0 else if k = 1 then 1 else if k = 2 then 2147483647 else 4294967295) = highk k from rfl]
  generalize lowk k = lo
  generalize highk k = hg
  by_cases h : k < 0 ∨ 6 < k
  · simp [h]
  · rw [if_neg h]
    by_cases h3 : k = 3
    · subst h3
      simp only [if_true]
      split <;> simp
    · rw [if_neg h3]
      have h30 : (k != 3) = true := by simpa using h3
      by_cases h4 : n < lo ∨ hg < n
      · rw [if_pos h4]
        simp [h30, h4]
      · rw [if_neg h4]
        simp only [decide_eq_false h, decide_eq_false h4, Bool.and_false, Bool.or_false]; rfl
theorem egNz : ∀ args w, (callFunc 150 args).run Try.prog w = .ok (.enter 150 args) w := fun _ _ => by kernel_rfl
theorem predNz (l : List Int) (w : World) : PredI Try.prog 150 #[] (fun v => v != 0) l w := by
  rintro W v _ hv hb
  change Calls Try.prog 150 #[.int .i64 v] W _
  go_enter Try.func150, Try.ntmps150
  go_wp2
  go_ret
  exact ⟨rfl, Below.refl _ _⟩
theorem containsFuncInt_n (A : Option Addr) (c B g n : Nat) (lb : Array Value) (p : Int → Bool) (l : List Int) (w : World) (hn : l.length = n) (h : At w B A l) (hB : B ≤ w.heap.size) (hl : n ≤ 9223372036854775807)
    (eg : ∀ args w, (callFunc g args).run Try.prog w = .ok (.enter g args) w) (hp : PredI Try.prog g lb p l w) :
    Calls Try.prog 112 #[.slice A n c, .func (.func g) #[] lb] w fun e w' => e = .returned (.bool (l.any p)) ∧ Below w.heap.size w w' := by
  subst hn; exact containsFuncInt_any A c B g lb p l w h hB hl eg hp
theorem idle_ok (f : Ord.Form) (x : RO) (h : I64 x.a ∧ I64 x.b ∧ I64 x.c) : ∀ u ∈ Ord.idle f x, I64 u := fun u hu => by
  obtain ⟨i, -, rfl⟩ := List.mem_map.1 hu
  exact fld_ok x h i

set_option maxHeartbeats 6400000 in
set_option maxRecDepth 100000 in
theorem right_any (fr : List Nat) (fw : Bool) (fl fh : Int) (fn fk : Bool) (fe : Int) (x : RO) (slots : Int) (nex ec : Nat) (EA : Option Addr) (v0 v1 v2 v4 v6 v7 v8 v9 v10 v11 v12 v13 : Value) (w : World) (hro : ∀ i ∈ fr, i < 3) (hxi : I64 x.a ∧ I64 x.b ∧ I64 x.c) (hki : I64 x.k.1 ∧ I64 x.k.2) :
    Calls Try.prog 131 #[.agg #[.string (Ord.lets fr), .bool fw, .int .i64 fl, .int .i64 fh, .bool fn, .bool fk, .int .i64 fe], .agg #[.int .i64 x.op, .int .i64 x.a, .int .i64 x.b, .int .i64 x.c, .int .i64 x.n, .int .i64 x.exit, .int .i64 x.k.1, .int .i64 x.k.2], .agg #[v0, v1, v2, .int .i64 slots, v4, .slice EA nex ec, v6, v7, v8, v9, v10, v11, v12, v13]] w fun e w' => e = .returned (.bool (Ord.right ⟨fr, fw, fl, fh, fn, fk, fe⟩ x slots nex)) ∧ Below w.heap.size w w' := by
  obtain ⟨Q, hQ⟩ : ∃ Q, Ord.right ⟨fr, fw, fl, fh, fn, fk, fe⟩ x slots nex = Q := ⟨_, rfl⟩
  rw [hQ]
  obtain ⟨nm, hnm⟩ : ∃ nm, Ord.numOf ⟨fr, fw, fl, fh, fn, fk, fe⟩ x = nm := ⟨_, rfl⟩
  obtain ⟨b4, hb4⟩ : ∃ b, Ord.c4 ⟨fr, fw, fl, fh, fn, fk, fe⟩ x = b := ⟨_, rfl⟩
  obtain ⟨b5, hb5⟩ : ∃ b, Ord.c5 ⟨fr, fw, fl, fh, fn, fk, fe⟩ x = b := ⟨_, rfl⟩
  obtain ⟨b7, hb7⟩ : ∃ b, Ord.c7 ⟨fr, fw, fl, fh, fn, fk, fe⟩ x = b := ⟨_, rfl⟩
  obtain ⟨b8, hb8⟩ : ∃ b, Ord.c8 ⟨fr, fw, fl, fh, fn, fk, fe⟩ x = b := ⟨_, rfl⟩
  obtain ⟨b10, hb10⟩ : ∃ b, Ord.c10 ⟨fr, fw, fl, fh, fn, fk, fe⟩ x = b := ⟨_, rfl⟩
  obtain ⟨b11, hb11⟩ : ∃ b, Ord.c11 ⟨fr, fw, fl, fh, fn, fk, fe⟩ x = b := ⟨_, rfl⟩
  obtain ⟨b13, hb13⟩ : ∃ b, Ord.c13 x slots = b := ⟨_, rfl⟩
  obtain ⟨b15, hb15⟩ : ∃ b, Ord.c15 ⟨fr, fw, fl, fh, fn, fk, fe⟩ x = b := ⟨_, rfl⟩
  unfold Ord.right at hQ
  rw [hb4, hb5, hb7, hb8, hb10, hb11, hb13, hb15] at hQ
  unfold Ord.c4 at hb4; unfold Ord.c5 at hb5; unfold Ord.c7 at hb7; unfold Ord.c8 at hb8; unfold Ord.c10 at hb10; unfold Ord.c11 at hb11; unfold Ord.c13 at hb13; unfold Ord.c15 at hb15
  rw [hnm] at hb4 hb5
  unfold Ord.withNum at hb4
  simp only at hb4 hb5 hb7 hb8 hb10 hb11 hb13 hb15
  rw [← box_bad] at hb11
  have HQ := Lib.hid (And.intro hQ (And.intro hb4 (And.intro hro (And.intro hxi hki)))); clear hQ hb4 hro hxi hki
  have HNM := Lib.hid hnm; clear hnm
  have HB5 := Lib.hid hb5; clear hb5
  have HB7 := Lib.hid hb7; clear hb7
  have HB8 := Lib.hid hb8; clear hb8
  have HB10 := Lib.hid hb10; clear hb10
  have HB11 := Lib.hid hb11; clear hb11
  have HB13 := Lib.hid hb13; clear hb13
  have HB15 := Lib.hid hb15; clear hb15
  go_enter Try.func131, Try.ntmps131
  go_wp2_with fail
  refine calls_world (fun W => Blk W w.heap.size 197 #[.string (Ord.lets fr), .bool fw, .int .i64 fl, .int .i64 fh, .bool fn, .bool fk, .int .i64 fe] ∧ Blk W (w.heap.size + 1) 146 #[.int .i64 x.op, .int .i64 x.a, .int .i64 x.b, .int .i64 x.c, .int .i64 x.n, .int .i64 x.exit, .int .i64 x.k.1, .int .i64 x.k.2] ∧ Blk W (w.heap.size + 2) 104 #[v0, v1, v2, .int .i64 slots, v4, .slice EA nex ec, v6, v7, v8, v9, v10, v11, v12, v13] ∧ Below w.heap.size w W ∧ w.heap.size + 3 ≤ W.heap.size) ⟨((Blk.new w _ _).alloc _).alloc _, (Blk.at_ _ _ _ (by simp)).alloc _, Blk.at_ _ _ _ (by simp), (((Below.refl _ _).alloc (Nat.le_refl _) _).alloc (by simp) _).alloc (by simp; omega) _, by simp⟩ ?_
  rintro W ⟨hF, hX, hC, hb0, hs0⟩
  refine (box_any x.k.1 x.k.2 W HQ.out.2.2.2.2.1 HQ.out.2.2.2.2.2).mono ?_
  rintro e w1 ⟨rfl, hb1⟩
  obtain ⟨bw, be, hbe⟩ : ∃ p q, boxL x.k.1 x.k.2 = (p, q) := ⟨_, _, rfl⟩
  rw [hbe] at HB11 ⊢
  have hs1 := hb1.size
  have hbl1 := hb0.trans (hb1.mono (by omega))
  have lt1 : w.heap.size + 2 < w1.heap.size := by omega
  have HB := Lib.hid (And.intro (hF.fresh hb1) (And.intro (hX.fresh hb1) (hC.fresh hb1))); clear hF hX hC hbe
  have x0 := HB.out.2.1.cell 0 (v := .int .i64 x.op) rfl
  have x4 := HB.out.2.1.cell 4 (v := .int .i64 x.n) rfl
  obtain ⟨b2, hb2⟩ : ∃ b, (x.op == 12 && x.n != 1) = b := ⟨_, rfl⟩
  have HB2 := Lib.hid hb2; clear hb2
  go_upto_region 2 with fail
  go_cut [22] (fun ov W2 => ov = .bool b2 ∧ W2 = w1)
  case first =>
    cases d0 : (x.op == 12) with
    | false =>
      go_wp2_with fail
      go_meet
      exact ⟨by rw [← HB2.out, d0]; rfl, rfl⟩
    | true =>
      cases d1 : (x.n != 1) with
      | false =>
        go_wp2_with fail
        go_meet
        exact ⟨by rw [← HB2.out, d0, d1]; rfl, rfl⟩
      | true =>
        go_wp2_with fail
        go_meet
        exact ⟨by rw [← HB2.out, d0, d1]; rfl, rfl⟩
  case rest =>
    obtain ⟨rfl, rfl⟩ := hcut
    clear x0 x4
    go_upto_if 22 with fail
    go_cut [] (fun W2 => Blk W2 w.heap.size 197 #[.string (Ord.lets fr), .bool fw, .int .i64 fl, .int .i64 fh, .bool nm, .bool fk, .int .i64 fe] ∧ Blk W2 (w.heap.size + 1) 146 #[.int .i64 x.op, .int .i64 x.a, .int .i64 x.b, .int .i64 x.c, .int .i64 x.n, .int .i64 x.exit, .int .i64 x.k.1, .int .i64 x.k.2] ∧ Blk W2 (w.heap.size + 2) 104 #[v0, v1, v2, .int .i64 slots, v4, .slice EA nex ec, v6, v7, v8, v9, v10, v11, v12, v13] ∧ Below w.heap.size w W2 ∧ w.heap.size + 2 < W2.heap.size)
    case first =>
      have z4 := HB.out.1.frozen 4
      have y4 := HB.out.1.cell 4 (v := .bool fn) rfl
      cases b2 with
      | true =>
        have hnn : nm = false := by rw [← HNM.out]; unfold Ord.numOf; rw [HB2.out]; simp
        have HN := Lib.hid hnn; clear hnn
        go_wp2_with fail
        go_meet
        refine ⟨?_, HB.out.2.1.far (by simp) _, HB.out.2.2.far (by simp) _, hbl1.setCell (by simp) _, by simp; omega⟩
        have := HB.out.1.set_ 4 (.bool false)
        rw [HN.out]; simpa using this
      | false =>
        have hnn : nm = fn := by rw [← HNM.out]; unfold Ord.numOf; rw [HB2.out]; simp
        have HN := Lib.hid hnn; clear hnn
        go_wp2_with fail
        go_meet
        exact ⟨by rw [HN.out]; exact HB.out.1, HB.out.2.1, HB.out.2.2, hbl1, lt1⟩
    case rest =>
      obtain ⟨hF, hX, hC, hbl2, hs2⟩ := hcut
      have HW := Lib.hid (And.intro hF (And.intro hX hC)); clear hF hX hC HB HNM HB2
      go_wp2_with (first | (refine wpList_ld rfl 197 (.tmp 3) rfl w.heap.size rfl HW.out.1 Try.underlying197 rfl (by kernel_rfl) ?_) | (refine wpList_ld rfl 146 (.tmp 4) rfl (w.heap.size + 1) rfl HW.out.2.1 Try.underlying146 rfl (by kernel_rfl) ?_))
      refine (idle_any fr fw fl fh nm fk fe x wc HQ.out.2.2.1 HQ.out.2.2.2.1).mono ?_
      rintro e w3 ⟨A3, c3, m3, rfl, hm3, ho3, hb3⟩
      have hs3 := hb3.size
      have H3 := Lib.hid (And.intro hm3 (And.intro ho3 (And.intro (HW.out.1.fresh hb3) (And.intro (HW.out.2.1.fresh hb3) (And.intro (HW.out.2.2.fresh hb3) (hbl2.trans (hb3.mono (by omega)))))))); clear hm3 ho3 hb3 HW
      have hml : m3 ≤ 3 := by rw [← H3.out.1]; exact Ord.idleK_len _ x 3
      go_wp2_with fail
      refine (containsFuncInt_n A3 c3 w3.heap.size 150 m3 #[] (fun v => v != 0) _ w3 H3.out.1 (H3.out.2.1.at_ (idle_ok _ x HQ.out.2.2.2.1)) (Nat.le_refl _) (by omega) egNz (predNz _ _)).mono ?_
      rintro e w4 ⟨he4, hb4w⟩
      rw [HQ.out.2.1] at he4
      subst he4
      have hs4 := hb4w.size
      have H4 := Lib.hid (And.intro (H3.out.2.2.1.fresh hb4w) (And.intro (H3.out.2.2.2.1.fresh hb4w) (H3.out.2.2.2.2.1.fresh hb4w)))
      have hbl4 : Below w.heap.size w w4 := H3.out.2.2.2.2.2.trans (hb4w.mono (by omega))
      have lt4 : w.heap.size + 2 < w4.heap.size := by omega
      clear hb4w H3 hs3 hs4 hml
      cases b4 with
      | true =>
        go_wp2_with fail
        go_ret
        exact ⟨ret_bool HQ.out.1, hbl4⟩
      | false =>
        go_upto_region 5 with fail
        go_cut [24] (fun ov W2 => ov = .bool b5 ∧ W2 = w4)
        case first =>
          have f4 := H4.out.1.cell 4 (v := .bool nm) rfl
          have x2 := H4.out.2.1.cell 2 (v := .int .i64 x.b) rfl
          cases nm with
          | false =>
            go_wp2_with fail
            go_meet
            exact ⟨by rw [← HB5.out] <;> rfl, rfl⟩
          | true =>
            cases d1 : (decide (x.b < 0)) with
            | false =>
              cases d2 : (decide (1073741824 < x.b)) with
              | false =>
                go_wp2_with fail
                go_meet
                exact ⟨by rw [← HB5.out, d1, d2] <;> rfl, rfl⟩
              | true =>
                go_wp2_with fail
                go_meet
                exact ⟨by rw [← HB5.out, d1, d2] <;> rfl, rfl⟩
            | true =>
              go_wp2_with fail
              go_meet
              exact ⟨by rw [← HB5.out, d1] <;> rfl, rfl⟩
        case rest =>
          obtain ⟨rfl, hwc⟩ := hcut
          have hwc2 := hwc.symm
          subst hwc2
          clear hwc
          cases b5 with
          | true =>
            go_wp2_with fail
            go_ret
            exact ⟨ret_bool HQ.out.1, hbl4⟩
          | false =>
            go_upto_region 7 with fail
            go_cut [41] (fun ov W2 => ov = .bool b7 ∧ W2 = w4)
            case first =>
              have f1 := H4.out.1.cell 1 (v := .bool fw) rfl
              have x1 := H4.out.2.1.cell 1 (v := .int .i64 x.a) rfl
              cases fw with
              | false =>
                go_wp2_with (go_at_call 133; refine (isReg_any x.a _).mono ?_; rintro e w5 ⟨he5, rfl⟩; rw [d1] at he5; subst he5)
                go_meet
                exact ⟨by rw [← HB7.out] <;> rfl, rfl⟩
              | true =>
                cases d1 : (Ord.isReg x.a) with
                | false =>
                  go_wp2_with (go_at_call 133; refine (isReg_any x.a _).mono ?_; rintro e w5 ⟨he5, rfl⟩; rw [d1] at he5; subst he5)
                  go_meet
                  exact ⟨by rw [← HB7.out, d1] <;> rfl, rfl⟩
                | true =>
                  go_wp2_with (go_at_call 133; refine (isReg_any x.a _).mono ?_; rintro e w5 ⟨he5, rfl⟩; rw [d1] at he5; subst he5)
                  go_meet
                  exact ⟨by rw [← HB7.out, d1] <;> rfl, rfl⟩
            case rest =>
              obtain ⟨rfl, hwc⟩ := hcut
              have hwc2 := hwc.symm
              subst hwc2
              clear hwc
              cases b7 with
              | true =>
                go_wp2_with fail
                go_ret
                exact ⟨ret_bool HQ.out.1, hbl4⟩
              | false =>
                go_upto_region 8 with fail
                go_cut [41] (fun ov W2 => ov = .bool b8 ∧ W2 = w4)
                case first =>
                  have f2 := H4.out.1.cell 2 (v := .int .i64 fl) rfl
                  have f3 := H4.out.1.cell 3 (v := .int .i64 fh) rfl
                  have x4 := H4.out.2.1.cell 4 (v := .int .i64 x.n) rfl
                  cases d1 : (decide (x.n < fl)) with
                  | false =>
                    cases d2 : (decide (fh < x.n)) with
                    | false =>
                      go_wp2_with fail
                      go_meet
                      exact ⟨by rw [← HB8.out, d1, d2] <;> rfl, rfl⟩
                    | true =>
                      go_wp2_with fail
                      go_meet
                      exact ⟨by rw [← HB8.out, d1, d2] <;> rfl, rfl⟩
                  | true =>
                    go_wp2_with fail
                    go_meet
                    exact ⟨by rw [← HB8.out, d1] <;> rfl, rfl⟩
                case rest =>
                  obtain ⟨rfl, hwc⟩ := hcut
                  have hwc2 := hwc.symm
                  subst hwc2
                  clear hwc
                  cases b8 with
                  | true =>
                    go_wp2_with fail
                    go_ret
                    exact ⟨ret_bool HQ.out.1, hbl4⟩
                  | false =>
                    go_upto_region 10 with fail
                    go_cut [62] (fun ov W2 => ov = .bool b10 ∧ W2 = w4)
                    case first =>
                      have f5 := H4.out.1.cell 5 (v := .bool fk) rfl
                      have x6 := H4.out.2.1.cell 6 (v := .int .i64 x.k.1) rfl
                      have x7 := H4.out.2.1.cell 7 (v := .int .i64 x.k.2) rfl
                      cases fk with
                      | false =>
                        cases d1 : (x.k.1 == 0) with
                        | false =>
                          go_wp2_with fail
                          go_meet
                          exact ⟨by rw [← HB10.out, d1] <;> rfl, rfl⟩
                        | true =>
                          cases d2 : (x.k.2 == 0) with
                          | false =>
                            go_wp2_with fail
                            go_meet
                            exact ⟨by rw [← HB10.out, d1, d2] <;> rfl, rfl⟩
                          | true =>
                            go_wp2_with fail
                            go_meet
                            exact ⟨by rw [← HB10.out, d1, d2] <;> rfl, rfl⟩
                      | true =>
                        go_wp2_with fail
                        go_meet
                        exact ⟨by rw [← HB10.out] <;> rfl, rfl⟩
                    case rest =>
                      obtain ⟨rfl, hwc⟩ := hcut
                      have hwc2 := hwc.symm
                      subst hwc2
                      clear hwc
                      cases b10 with
                      | true =>
                        go_wp2_with fail
                        go_ret
                        exact ⟨ret_bool HQ.out.1, hbl4⟩
                      | false =>
                        go_upto_region 11 with fail
                        go_cut [62] (fun ov W2 => ov = .bool b11 ∧ W2 = w4)
                        case first =>
                          have f5 := H4.out.1.cell 5 (v := .bool fk) rfl
                          cases fk with
                          | false =>
                            go_wp2_with fail
                            go_meet
                            exact ⟨by rw [← HB11.out] <;> rfl, rfl⟩
                          | true =>
                            cases d1 : (be != 0) with
                            | false =>
                              go_wp2_with fail
                              go_meet
                              exact ⟨by rw [← HB11.out, d1] <;> rfl, rfl⟩
                            | true =>
                              go_wp2_with fail
                              go_meet
                              exact ⟨by rw [← HB11.out, d1] <;> rfl, rfl⟩
                        case rest =>
                          obtain ⟨rfl, hwc⟩ := hcut
                          have hwc2 := hwc.symm
                          subst hwc2
                          clear hwc
                          cases b11 with
                          | true =>
                            go_wp2_with fail
                            go_ret
                            exact ⟨ret_bool HQ.out.1, hbl4⟩
                          | false =>
                            go_upto_region 13 with fail
                            go_cut [78] (fun ov W2 => ov = .bool b13 ∧ W2 = w4)
                            case first =>
                              have x0 := H4.out.2.1.cell 0 (v := .int .i64 x.op) rfl
                              have x4 := H4.out.2.1.cell 4 (v := .int .i64 x.n) rfl
                              have c3 := H4.out.2.2.cell 3 (v := .int .i64 slots) rfl
                              cases d1 : (x.op == 3) with
                              | false =>
                                cases d2 : (x.op == 4) with
                                | false =>
                                  go_wp2_with fail
                                  go_meet
                                  exact ⟨by rw [← HB13.out, d1, d2] <;> rfl, rfl⟩
                                | true =>
                                  cases d3 : (decide (slots ≤ x.n)) with
                                  | false =>
                                    go_wp2_with fail
                                    go_meet
                                    exact ⟨by rw [← HB13.out, d1, d2, d3] <;> rfl, rfl⟩
                                  | true =>
                                    go_wp2_with fail
                                    go_meet
                                    exact ⟨by rw [← HB13.out, d1, d2, d3] <;> rfl, rfl⟩
                              | true =>
                                cases d3 : (decide (slots ≤ x.n)) with
                                | false =>
                                  go_wp2_with fail
                                  go_meet
                                  exact ⟨by rw [← HB13.out, d1, d3] <;> rfl, rfl⟩
                                | true =>
                                  go_wp2_with fail
                                  go_meet
                                  exact ⟨by rw [← HB13.out, d1, d3] <;> rfl, rfl⟩
                            case rest =>
                              obtain ⟨rfl, hwc⟩ := hcut
                              have hwc2 := hwc.symm
                              subst hwc2
                              clear hwc
                              cases b13 with
                              | true =>
                                go_wp2_with fail
                                go_ret
                                exact ⟨ret_bool HQ.out.1, hbl4⟩
                              | false =>
                                go_upto_region 15 with fail
                                go_cut [94] (fun ov W2 => ov = .bool b15 ∧ W2 = w4)
                                case first =>
                                  have f6 := H4.out.1.cell 6 (v := .int .i64 fe) rfl
                                  have x5 := H4.out.2.1.cell 5 (v := .int .i64 x.exit) rfl
                                  cases d1 : (fe == 0) with
                                  | false =>
                                    cases d2 : (fe == 1) with
                                    | false =>
                                      go_wp2_with fail
                                      go_meet
                                      exact ⟨by rw [← HB15.out, d1, d2] <;> rfl, rfl⟩
                                    | true =>
                                      cases d3 : (x.exit == -1) with
                                      | false =>
                                        go_wp2_with fail
                                        go_meet
                                        exact ⟨by rw [← HB15.out, d1, d2, d3] <;> rfl, rfl⟩
                                      | true =>
                                        go_wp2_with fail
                                        go_meet
                                        exact ⟨by rw [← HB15.out, d1, d2, d3] <;> rfl, rfl⟩
                                  | true =>
                                    go_wp2_with fail
                                    go_meet
                                    exact ⟨by rw [← HB15.out, d1] <;> rfl, rfl⟩
                                case rest =>
                                  obtain ⟨rfl, hwc⟩ := hcut
                                  have hwc2 := hwc.symm
                                  subst hwc2
                                  clear hwc
                                  have x5 := H4.out.2.1.cell 5 (v := .int .i64 x.exit) rfl
                                  have c5 := H4.out.2.2.cell 5 (v := .slice EA nex ec) rfl
                                  cases b15 with
                                  | true =>
                                    go_wp2_with fail
                                    go_ret
                                    exact ⟨ret_bool HQ.out.1, hbl4⟩
                                  | false =>
                                    cases d1 : (decide (0 ≤ x.exit)) with
                                    | false =>
                                      have HZ := Lib.hid (show Q = (decide (0 ≤ x.exit) && decide (x.exit < nex)) by rw [← HQ.out.1] <;> rfl)
                                      go_wp2_with fail
                                      go_ret
                                      exact ⟨ret_bool (by rw [HZ.out, d1] <;> rfl), hbl4⟩
                                    | true =>
                                      cases d2 : (decide (x.exit < (nex : Int))) with
                                      | false =>
                                        have HZ := Lib.hid (show Q = (decide (0 ≤ x.exit) && decide (x.exit < nex)) by rw [← HQ.out.1] <;> rfl)
                                        go_wp2_with fail
                                        go_ret
                                        exact ⟨ret_bool (by rw [HZ.out, d1, d2] <;> rfl), hbl4⟩
                                      | true =>
                                        have HZ := Lib.hid (show Q = (decide (0 ≤ x.exit) && decide (x.exit < nex)) by rw [← HQ.out.1] <;> rfl)
                                        go_wp2_with fail
                                        go_ret
                                        exact ⟨ret_bool (by rw [HZ.out, d1, d2] <;> rfl), hbl4⟩

end Go.Proofs.Ytljdnadejmkaeaa
