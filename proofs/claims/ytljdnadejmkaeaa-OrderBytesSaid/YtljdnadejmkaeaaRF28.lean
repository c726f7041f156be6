/- RF: Ord9. -/
import Derived.Test.YtljdnadejmkaeaaRF27
/- order.formed. -/
namespace Go.Proofs.Ytljdnadejmkaeaa
open Go.RowKit

theorem Ord.places_ok {w : World} {B : Nat} {As Am : Option Addr} {x : RE} (hs : At w B As x.sets) (hm : At w B Am x.makes) : ∀ z ∈ Ord.places x, Flat.ok z := by
  intro z hz
  unfold Ord.places at hz
  rw [List.mem_append] at hz
  rcases hz with hz | hz
  · obtain ⟨p, hp, rfl⟩ := List.mem_map.1 hz
    exact (hs.ok_ p hp).2
  · obtain ⟨m, hm', hz⟩ := List.mem_flatMap.1 hz
    obtain ⟨i, hi⟩ := List.mem_iff_getElem?.1 hm'
    obtain ⟨b, o, m2, VA, vc, -, -, hx, -, -, -, -, -, av, -, j0, j1, -⟩ := hm.rM_ (List.getElem?_eq_some_iff.1 hi).1
    obtain rfl : m2 = m := Option.some.inj (hx.symm.trans hi)
    rcases List.mem_cons.1 hz with rfl | hz
    · exact ⟨j0, j1⟩
    · exact av.ok_ z hz
theorem Ord.rising_step {l : List (Int × Int × Int)} {k : Nat} {s : Int × Int × Int} (h : l[k]? = some s) (last : Int) : Ord.risingR last (l.drop k) = (!(decide (s.1 ≤ last) || decide (60 ≤ s.1)) && Ord.risingR s.1 (l.drop (k + 1))) := by
  have hk := (List.getElem?_eq_some_iff.1 h).1
  rw [List.drop_eq_getElem_cons hk]
  have : l[k] = s := (List.getElem?_eq_some_iff.1 h).2
  rw [this]; rfl

set_option maxHeartbeats 1600000 in
set_option maxRecDepth 100000 in
theorem formed_any (B sc mc N : Nat) (SA MA : Option Addr) (x : RE) (slots : Int) (w : World) (hs : At w B SA x.sets) (hm : At w B MA x.makes) (hB : B ≤ w.heap.size) (hN : (Ord.places x).length = N) (hNb : N * 16 ≤ 140737488355328) :
    Calls Try.prog 97 #[.agg #[.int .i64 x.at_, .int .i64 x.steps, .slice SA x.sets.length sc, .slice MA x.makes.length mc], .int .i64 slots] w fun e w' => e = .returned (.bool (Ord.formed slots x)) ∧ Below w.heap.size w w' := by
  obtain ⟨Q, hQ⟩ : ∃ Q, Ord.formed slots x = Q := ⟨_, rfl⟩
  rw [hQ]
  obtain ⟨b1, hb1⟩ : ∃ b, Ord.numsBad x = b := ⟨_, rfl⟩
  obtain ⟨br, hbr⟩ : ∃ b, Ord.risingR (-1) x.sets = b := ⟨_, rfl⟩
  obtain ⟨bm, hbm⟩ : ∃ b, x.makes.any Ord.makeBad = b := ⟨_, rfl⟩
  obtain ⟨bp, hbp⟩ : ∃ b, ((Ord.places x).any fun p => !Ord.placeOk slots p) = b := ⟨_, rfl⟩
  unfold Ord.formed at hQ
  rw [hb1, hbr, hbm, hbp] at hQ
  unfold Ord.numsBad at hb1
  have hpl := Ord.places_sets x
  have hpm := Ord.places_makes x
  rw [hN] at hpl hpm
  have HQ := Lib.hid (And.intro hQ (And.intro hbr (And.intro hbm hbp))); clear hQ hbr hbm hbp
  have HB1 := Lib.hid hb1; clear hb1
  have hok := Ord.places_ok hs hm
  have H := Lib.hid (And.intro hs (And.intro hm (And.intro hN hok))); clear hs hm hN hok
  go_enter Try.func97, Try.ntmps97
  go_upto_region 1 with fail
  refine wp_world (fun W => Blk W w.heap.size 102 #[.int .i64 x.at_, .int .i64 x.steps, .slice SA x.sets.length sc, .slice MA x.makes.length mc] ∧ Blk W (w.heap.size + 1) 3 #[.int .i64 slots] ∧ Below w.heap.size w W ∧ w.heap.size + 2 ≤ W.heap.size) ⟨(Blk.new _ _ _).alloc _, Blk.at_ _ _ _ (by simp), ((Below.refl _ _).alloc (Nat.le_refl _) _).alloc (by simp) _, by simp⟩ ?_
  rintro W ⟨hX, hG, hb0, hs0⟩
  have x0 := hX.cell 0 (v := .int .i64 x.at_) rfl
  have x1 := hX.cell 1 (v := .int .i64 x.steps) rfl
  have HX := Lib.hid (And.intro hX hG); clear hX hG
  go_cut [20] (fun ov W2 => ov = .bool b1 ∧ W2 = W)
  case first =>
    cases d1 : (decide (x.at_ < 0)) with
    | false =>
      cases d2 : (decide (x.steps < 0)) with
      | false =>
        cases d3 : (decide (200 < x.steps)) with
        | false =>
          go_wp2_with fail
          go_meet
          exact ⟨by rw [← HB1.out, d1, d2, d3] <;> rfl, rfl⟩
        | true =>
          go_wp2_with fail
          go_meet
          exact ⟨by rw [← HB1.out, d1, d2, d3] <;> rfl, rfl⟩
      | true =>
        go_wp2_with fail
        go_meet
        exact ⟨by rw [← HB1.out, d1, d2] <;> rfl, rfl⟩
    | true =>
      go_wp2_with fail
      go_meet
      exact ⟨by rw [← HB1.out, d1] <;> rfl, rfl⟩
  case rest =>
    obtain ⟨rfl, hwc⟩ := hcut
    have hwc2 := hwc.symm
    subst hwc2
    clear hwc
    cases b1 with
    | true =>
      go_wp2_with fail
      go_ret
      exact ⟨ret_bool HQ.out.1, hb0⟩
    | false =>
      have x2 := HX.out.1.cell 2 (v := .slice SA x.sets.length sc) rfl
      have ltW : w.heap.size < W.heap.size := by omega
      clear x0 x1
      go_wp2_with fail
      clear x2
      go_loopg [5, 24] (x.sets.length) (fun gk lv iv wr => ∃ (k : Nat) (last : Int), k ≤ x.sets.length ∧ gk = x.sets.length - k ∧ iv = .int .i64 k ∧ lv = .int .i64 last ∧ Hid (Ord.risingR last (x.sets.drop k) = br) ∧ Below W.heap.size W wr)
      case atStart => exact ⟨0, -1, Nat.zero_le _, rfl, rfl, rfl, HQ.out.2.1, Below.refl _ _⟩
      case round =>
        obtain ⟨k, last, hk, rfl, rfl, rfl, hkeep, hbl⟩ := hrel
        have hsz := hbl.size
        have hbw : Below w.heap.size w wr := hb0.trans (hbl.mono (by omega))
        by_cases hlt : k < x.sets.length
        · obtain ⟨b, o, a0, a1, a2, rfl, hb, hx, -, -, -, d0, d1, d2⟩ := (H.out.1.below (hbw.mono hB)).trip hlt
          have hst := Ord.rising_step hx last
          rw [hkeep.out] at hst
          simp only at hst
          have hk0 : (0 : Int) ≤ (k : Int) := by omega
          have hk1 : (k : Int) < (x.sets.length : Int) := by omega
          have HS := Lib.hid hst; clear hst hx hkeep
          by_cases c1 : a0 ≤ last
          · have hr : br = false := by rw [HS.out, decide_eq_true c1]; rfl
            have hq : Q = false := by rw [← HQ.out.1, hr]; rfl
            have HZ := Lib.hid hq; clear hq hr
            go_wp2_with fail
            go_ret
            exact ⟨by rw [HZ.out]; rfl, hbw.alloc (by omega) _⟩
          · by_cases c2 : 60 ≤ a0
            · have hr : br = false := by rw [HS.out, decide_eq_false c1, decide_eq_true c2]; rfl
              have hq : Q = false := by rw [← HQ.out.1, hr]; rfl
              have HZ := Lib.hid hq; clear hq hr
              go_wp2_with fail
              go_ret
              exact ⟨by rw [HZ.out]; rfl, hbw.alloc (by omega) _⟩
            · have hr : Ord.risingR a0 (x.sets.drop (k + 1)) = br := by rw [HS.out, decide_eq_false c1, decide_eq_false c2]; rfl
              have HZ := Lib.hid hr; clear hr
              go_wp2_with fail
              go_roundg (x.sets.length - (k + 1))
              case measure => omega
              case rel => exact ⟨k + 1, a0, by omega, rfl, by go_num, rfl, HZ.out, hbl.alloc (by omega) _⟩
        · have hr : br = true := by have h := hkeep.out; rw [List.drop_eq_nil_of_le (by omega)] at h; rw [← h]; rfl
          subst hr
          have HXr := Lib.hid (And.intro (HX.out.1.fresh hbl) (HX.out.2.fresh hbl))
          have x3 := HXr.out.1.cell 3 (v := .slice MA x.makes.length mc) rfl
          have ltr : w.heap.size < wr.heap.size := by omega
          have HA := Lib.hid (And.intro (H.out.1.below (hbw.mono hB)) (H.out.2.1.below (hbw.mono hB)))
          clear hkeep
          go_wp2_with fail
          refine (containsFuncRM_any MA mc B 135 #[] Ord.makeBad x.makes wr HA.out.2 (by omega) (by omega) egFormed1 (predMakeBad x.makes _)).mono ?_
          rintro e w1 ⟨rfl, hb1⟩
          rw [HQ.out.2.2.1]
          have hs1 := hb1.size
          have hbw1 : Below w.heap.size w w1 := hbw.trans (hb1.mono (by omega))
          clear x3
          cases bm with
          | true =>
            go_wp2_with fail
            go_ret
            exact ⟨ret_bool HQ.out.1, hbw1⟩
          | false =>
            have hX1 := HXr.out.1.fresh hb1
            have lt1 : w.heap.size + 1 < w1.heap.size := by omega
            have HY := Lib.hid (And.intro hX1 (And.intro (HXr.out.2.fresh hb1) (And.intro (HA.out.1.below (hb1.mono (by omega))) (HA.out.2.below (hb1.mono (by omega)))))); clear hX1
            go_wp2_with (refine wpList_ld rfl 102 (.tmp 2) rfl w.heap.size rfl HY.out.1 Try.underlying102 rfl (by kernel_rfl) ?_)
            refine (places_any B sc mc N SA MA x w1 HY.out.2.2.1 HY.out.2.2.2 (by omega) H.out.2.2.1 hNb).mono ?_
            rintro e w2 ⟨PA, pd, rfl, ho2, hb2⟩
            have hs2 := hb2.size
            have H2 := Lib.hid (And.intro (ho2.at_ H.out.2.2.2) (HY.out.2.1.fresh hb2)); clear ho2
            go_wp2_with fail
            refine (containsFuncRP_any PA pd w2.heap.size 136 N #[.pointer (some ⟨w.heap.size + 1, 0, none⟩)] (fun p => !Ord.placeOk slots p) (Ord.places x) w2 H.out.2.2.1 H2.out.1 (Nat.le_refl _) (by omega) egFormed2 (predPlaceBad (w.heap.size + 1) slots _ _ H2.out.2)).mono ?_
            rintro e w3 ⟨rfl, hb3⟩
            rw [HQ.out.2.2.2]
            go_wp2_with fail
            go_ret
            exact ⟨ret_bool HQ.out.1, (hbw1.trans (hb2.mono (by omega))).trans (hb3.mono (by omega))⟩

end Go.Proofs.Ytljdnadejmkaeaa
