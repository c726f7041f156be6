/- RF: Ord8. -/
import Derived.Test.YtljdnadejmkaeaaRF24
import Derived.Test.YtljdnadejmkaeaaRF26
import Derived.Deep.DeepCutAuto
/- order: large, bare, formed. -/
namespace Go.Proofs.Ytljdnadejmkaeaa
open Go.RowKit

theorem egOLarge1 : ∀ args w, (callFunc 125 args).run Try.prog w = .ok (.enter 125 args) w := fun _ _ => by kernel_rfl
theorem predWide (l : List RM) (w : World) : PredRM Try.prog 125 #[] Ord.wide l w := by
  rintro W m VA vc hm hb
  change Calls Try.prog 125 #[.agg #[.int .i64 m.cell.1, .int .i64 m.cell.2, .int .i64 m.kind, .int .i64 m.num, .slice VA m.vals.length vc]] W _
  go_enter Try.func125, Try.ntmps125
  go_wp2
  go_ret
  exact ⟨rfl, (Below.refl _ _).alloc (Nat.le_refl _) _⟩

set_option maxRecDepth 100000 in
theorem olarge_any (B sc mc : Nat) (SA MA : Option Addr) (x : RE) (w : World) (hm : At w B MA x.makes) (hB : B ≤ w.heap.size) (hml : x.makes.length ≤ 9223372036854775807) :
    Calls Try.prog 92 #[.agg #[.int .i64 x.at_, .int .i64 x.steps, .slice SA x.sets.length sc, .slice MA x.makes.length mc]] w fun e w' => e = .returned (.bool (Ord.large x)) ∧ Below w.heap.size w w' := by
  obtain ⟨Q, hQ⟩ : ∃ Q, Ord.large x = Q := ⟨_, rfl⟩
  rw [hQ]
  unfold Ord.large at hQ
  obtain ⟨q, hq⟩ : ∃ q, x.makes.any Ord.wide = q := ⟨_, rfl⟩
  rw [hq] at hQ
  have HQ := Lib.hid (And.intro hQ (And.intro hq hm)); clear hQ hq hm
  have hb1 : Below w.heap.size w (w.alloc (.cells #[.int .i64 x.at_, .int .i64 x.steps, .slice SA x.sets.length sc, .slice MA x.makes.length mc] 102)) := (Below.refl _ _).alloc (Nat.le_refl _) _
  cases d1 : (decide (60 < (x.sets.length : Int))) with
  | true =>
    have HZ := Lib.hid (show Q = true by rw [← HQ.out.1, d1]; rfl)
    go_enter Try.func92, Try.ntmps92
    go_wp2_with fail
    go_ret
    exact ⟨by rw [HZ.out]; rfl, hb1⟩
  | false =>
    cases d2 : (decide (300 < (x.makes.length : Int))) with
    | true =>
      have HZ := Lib.hid (show Q = true by rw [← HQ.out.1, d1, d2]; rfl)
      go_enter Try.func92, Try.ntmps92
      go_wp2_with fail
      go_ret
      exact ⟨by rw [HZ.out]; rfl, hb1⟩
    | false =>
      have HZ := Lib.hid (show Q = q by rw [← HQ.out.1, d1, d2]; rfl)
      go_enter Try.func92, Try.ntmps92
      go_wp2_with (go_at_call 124; refine (containsFuncRM_any MA mc B 125 #[] Ord.wide x.makes _ (HQ.out.2.2.alloc hB _) (by simp; omega) hml egOLarge1 (predWide x.makes _)).mono ?_; rintro e w1 ⟨rfl, hbw⟩; rw [HQ.out.2.1])
      go_ret
      exact ⟨by rw [HZ.out]; rfl, hb1.trans (hbw.mono (by simp))⟩

set_option maxRecDepth 100000 in
theorem bare_any (sc mc : Nat) (SA MA : Option Addr) (x : RE) (w : World) : Calls Try.prog 93 #[.agg #[.int .i64 x.at_, .int .i64 x.steps, .slice SA x.sets.length sc, .slice MA x.makes.length mc]] w fun e w' => e = .returned (.bool (Ord.bare x)) ∧ Below w.heap.size w w' := by
  obtain ⟨Q, hQ⟩ : ∃ Q, Ord.bare x = Q := ⟨_, rfl⟩
  rw [hQ]
  unfold Ord.bare at hQ
  have HQ := Lib.hid hQ; clear hQ
  have hb1 : Below w.heap.size w (w.alloc (.cells #[.int .i64 x.at_, .int .i64 x.steps, .slice SA x.sets.length sc, .slice MA x.makes.length mc] 102)) := (Below.refl _ _).alloc (Nat.le_refl _) _
  cases d1 : (x.at_ == 0) with
  | false =>
    go_enter Try.func93, Try.ntmps93
    go_wp2_with fail
    go_ret
    exact ⟨ret_bool (by rw [← HQ.out, d1] <;> rfl), hb1⟩
  | true =>
    cases d2 : (x.steps == 0) with
    | false =>
      go_enter Try.func93, Try.ntmps93
      go_wp2_with fail
      go_ret
      exact ⟨ret_bool (by rw [← HQ.out, d1, d2] <;> rfl), hb1⟩
    | true =>
      cases d3 : ((x.sets.length : Int) == 0) with
      | false =>
        go_enter Try.func93, Try.ntmps93
        go_wp2_with fail
        go_ret
        exact ⟨ret_bool (by rw [← HQ.out, d1, d2, d3] <;> rfl), hb1⟩
      | true =>
        cases d4 : ((x.makes.length : Int) == 0) with
        | false =>
          go_enter Try.func93, Try.ntmps93
          go_wp2_with fail
          go_ret
          exact ⟨ret_bool (by rw [← HQ.out, d1, d2, d3, d4] <;> rfl), hb1⟩
        | true =>
          go_enter Try.func93, Try.ntmps93
          go_wp2_with fail
          go_ret
          exact ⟨ret_bool (by rw [← HQ.out, d1, d2, d3, d4] <;> rfl), hb1⟩

theorem egFormed1 : ∀ args w, (callFunc 135 args).run Try.prog w = .ok (.enter 135 args) w := fun _ _ => by kernel_rfl
set_option maxRecDepth 100000 in
theorem predMakeBad (l : List RM) (w : World) : PredRM Try.prog 135 #[] Ord.makeBad l w := by
  rintro W m VA vc hm hb
  change Calls Try.prog 135 #[.agg #[.int .i64 m.cell.1, .int .i64 m.cell.2, .int .i64 m.kind, .int .i64 m.num, .slice VA m.vals.length vc]] W _
  obtain ⟨Q, hQ⟩ : ∃ Q, Ord.makeBad m = Q := ⟨_, rfl⟩
  rw [hQ]
  unfold Ord.makeBad at hQ
  have HQ := Lib.hid hQ; clear hQ
  have hb1 : Below W.heap.size W (W.alloc (.cells #[.int .i64 m.cell.1, .int .i64 m.cell.2, .int .i64 m.kind, .int .i64 m.num, .slice VA m.vals.length vc] 189)) := (Below.refl _ _).alloc (Nat.le_refl _) _
  cases d1 : (decide (m.kind < 1)) with
  | false =>
    cases d2 : (decide (3 < m.kind)) with
    | false =>
      cases d3 : (decide (m.num < 0)) with
      | false =>
        cases d4 : (decide (0 < m.num)) with
        | false =>
          go_enter Try.func135, Try.ntmps135
          go_wp2_with fail
          go_ret
          exact ⟨ret_bool (by rw [← HQ.out, d1, d2, d3, d4] <;> rfl), hb1⟩
        | true =>
          cases d5 : (m.kind != 1) with
          | false =>
            go_enter Try.func135, Try.ntmps135
            go_wp2_with fail
            go_ret
            exact ⟨ret_bool (by rw [← HQ.out, d1, d2, d3, d4, d5] <;> rfl), hb1⟩
          | true =>
            go_enter Try.func135, Try.ntmps135
            go_wp2_with fail
            go_ret
            exact ⟨ret_bool (by rw [← HQ.out, d1, d2, d3, d4, d5] <;> rfl), hb1⟩
      | true =>
        go_enter Try.func135, Try.ntmps135
        go_wp2_with fail
        go_ret
        exact ⟨ret_bool (by rw [← HQ.out, d1, d2, d3] <;> rfl), hb1⟩
    | true =>
      go_enter Try.func135, Try.ntmps135
      go_wp2_with fail
      go_ret
      exact ⟨ret_bool (by rw [← HQ.out, d1, d2] <;> rfl), hb1⟩
  | true =>
    go_enter Try.func135, Try.ntmps135
    go_wp2_with fail
    go_ret
    exact ⟨ret_bool (by rw [← HQ.out, d1] <;> rfl), hb1⟩

theorem egFormed2 : ∀ args w, (callFunc 136 args).run Try.prog w = .ok (.enter 136 args) w := fun _ _ => by kernel_rfl
set_option maxRecDepth 100000 in
theorem predPlaceBad (G : Nat) (slots : Int) (l : List (Int × Int)) (w : World) (hG : Blk w G 3 #[.int .i64 slots]) : PredRP Try.prog 136 #[.pointer (some ⟨G, 0, none⟩)] (fun p => !Ord.placeOk slots p) l w := by
  rintro W ⟨p, q⟩ hm hok hb
  change Calls Try.prog 136 #[.agg #[.int .i64 p, .int .i64 q], .pointer (some ⟨G, 0, none⟩)] W _
  have g0 := (hG.fresh hb).cell 0 (v := .int .i64 slots) rfl
  have ltG : G < W.heap.size := (hG.fresh hb).lt
  obtain ⟨Q, hQ⟩ : ∃ Q, (!Ord.placeOk slots (p, q)) = Q := ⟨_, rfl⟩
  show Calls _ _ _ _ fun e W' => e = .returned (.bool (!Ord.placeOk slots (p, q))) ∧ _
  rw [hQ]
  unfold Ord.placeOk at hQ
  simp only at hQ
  have HQ := Lib.hid hQ; clear hQ hG hb hok hm
  have hb1 : Below W.heap.size W (W.alloc (.cells #[.int .i64 p, .int .i64 q] 90)) := (Below.refl _ _).alloc (Nat.le_refl _) _
  cases d1 : (q == -1) with
  | false =>
    cases d3 : (p == -1) with
    | false =>
      go_enter Try.func136, Try.ntmps136
      go_wp2_with (go_at_call 133; refine (isReg_any p _).mono ?_; rintro e w5 ⟨he5, rfl⟩; rw [d2] at he5; subst he5)
      go_ret
      exact ⟨ret_bool (by rw [← HQ.out, d1, d3] <;> rfl), hb1⟩
    | true =>
      cases d4 : (decide (0 ≤ q)) with
      | false =>
        go_enter Try.func136, Try.ntmps136
        go_wp2_with (go_at_call 133; refine (isReg_any p _).mono ?_; rintro e w5 ⟨he5, rfl⟩; rw [d2] at he5; subst he5)
        go_ret
        exact ⟨ret_bool (by rw [← HQ.out, d1, d3, d4] <;> rfl), hb1⟩
      | true =>
        cases d5 : (decide (q < slots)) with
        | false =>
          go_enter Try.func136, Try.ntmps136
          go_wp2_with (go_at_call 133; refine (isReg_any p _).mono ?_; rintro e w5 ⟨he5, rfl⟩; rw [d2] at he5; subst he5)
          go_ret
          exact ⟨ret_bool (by rw [← HQ.out, d1, d3, d4, d5] <;> rfl), hb1⟩
        | true =>
          go_enter Try.func136, Try.ntmps136
          go_wp2_with (go_at_call 133; refine (isReg_any p _).mono ?_; rintro e w5 ⟨he5, rfl⟩; rw [d2] at he5; subst he5)
          go_ret
          exact ⟨ret_bool (by rw [← HQ.out, d1, d3, d4, d5] <;> rfl), hb1⟩
  | true =>
    cases d2 : (Ord.isReg p) with
    | false =>
      cases d3 : (p == -1) with
      | false =>
        go_enter Try.func136, Try.ntmps136
        go_wp2_with (go_at_call 133; refine (isReg_any p _).mono ?_; rintro e w5 ⟨he5, rfl⟩; rw [d2] at he5; subst he5)
        go_ret
        exact ⟨ret_bool (by rw [← HQ.out, d1, d2, d3] <;> rfl), hb1⟩
      | true =>
        cases d4 : (decide (0 ≤ q)) with
        | false =>
          go_enter Try.func136, Try.ntmps136
          go_wp2_with (go_at_call 133; refine (isReg_any p _).mono ?_; rintro e w5 ⟨he5, rfl⟩; rw [d2] at he5; subst he5)
          go_ret
          exact ⟨ret_bool (by rw [← HQ.out, d1, d2, d3, d4] <;> rfl), hb1⟩
        | true =>
          cases d5 : (decide (q < slots)) with
          | false =>
            go_enter Try.func136, Try.ntmps136
            go_wp2_with (go_at_call 133; refine (isReg_any p _).mono ?_; rintro e w5 ⟨he5, rfl⟩; rw [d2] at he5; subst he5)
            go_ret
            exact ⟨ret_bool (by rw [← HQ.out, d1, d2, d3, d4, d5] <;> rfl), hb1⟩
          | true =>
            go_enter Try.func136, Try.ntmps136
            go_wp2_with (go_at_call 133; refine (isReg_any p _).mono ?_; rintro e w5 ⟨he5, rfl⟩; rw [d2] at he5; subst he5)
            go_ret
            exact ⟨ret_bool (by rw [← HQ.out, d1, d2, d3, d4, d5] <;> rfl), hb1⟩
    | true =>
      go_enter Try.func136, Try.ntmps136
      go_wp2_with (go_at_call 133; refine (isReg_any p _).mono ?_; rintro e w5 ⟨he5, rfl⟩; rw [d2] at he5; subst he5)
      go_ret
      exact ⟨ret_bool (by rw [← HQ.out, d1, d2] <;> rfl), hb1⟩

end Go.Proofs.Ytljdnadejmkaeaa
