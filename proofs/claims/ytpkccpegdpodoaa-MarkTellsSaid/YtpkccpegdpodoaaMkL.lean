/- mark: end. -/
import Derived.Test.YtpkccpegdpodoaaMkK
namespace Go.Proofs.Ytpkccpegdpodoaa
open Go.RowKit

attribute [local go_sem ↓] Go.wp_at_zero Go.wp_at_succ

theorem end_no (w : World) (base p : Nat) (F : Nat → Prop) (kind : Int) (s : List It) (h : Mkr w base F p kind false s) :
    Calls Try.prog 127 #[.pointer (some ⟨p, 0, none⟩)] w fun e w' => e = .returned (.tuple #[.int .i64 0, .int .i64 8]) ∧ w = w' := by
  obtain ⟨A, c, l, h1, h2, h3, h4, h5⟩ := h
  have c1 := h1.cell 1 (v := .bool false) rfl
  clear h1 h2 h5
  go_enter Try.func127, Try.ntmps127
  go_wp2
  go_ret2
  exact ⟨rfl, rfl⟩

theorem sweep1_white {x : It} (h : x.st = 0) : sweep1 x = ⟨[], 3, false⟩ := if_pos h
theorem sweep1_black {x : It} (h : x.st = 2) : sweep1 x = x.setst 0 := by unfold sweep1; rw [if_neg (by omega), if_pos h]
theorem sweep1_other {x : It} (h0 : x.st ≠ 0) (h2 : x.st ≠ 2) : sweep1 x = x := by unfold sweep1; rw [if_neg h0, if_neg h2]
theorem sweepK_id {k : Nat} {s : List It} {x : It} (h : s[k]? = some x) (hf : sweep1 x = x) : sweepK (k + 1) s = sweepK k s := by
  rw [sweepK_step k s id h hf.symm]
  apply List.ext_getElem?; intro i
  rw [get_modify]
  split
  · cases (sweepK k s)[i]? <;> rfl
  · rfl

set_option maxHeartbeats 1600000 in
set_option maxRecDepth 100000 in
theorem end_yes (w : World) (base p : Nat) (F : Nat → Prop) (kind : Int) (s : List It) (h : Mkr w base F p kind true s) (hi : MInv kind true s) :
    Calls Try.prog 127 #[.pointer (some ⟨p, 0, none⟩)] w fun e w' => e = .returned (.tuple #[.int .i64 (endN s), .int .i64 0]) ∧ Mkr w' base F p kind false (endI s) ∧ Touch F w w' := by
  have HM := Lib.hid (And.intro h hi)
  obtain ⟨A, c, l, h1, h2, h3, h4, h5⟩ := h
  have c1 := h1.cell 1 (v := .bool true) rfl
  clear h1 h2 h5 hi
  go_enter Try.func127, Try.ntmps127
  go_wp2_with fail
  clear c1
  go_loopg [] (pot s) (fun gk wr => ∃ (s1 : List It), gk = pot s1 ∧ Hid (Mkr wr base F p kind true s1 ∧ MInv kind true s1 ∧ (stepsI (pot s) s).1 = (stepsI (pot s1) s1).1) ∧ Touch F w wr)
  case atStart => exact ⟨s, rfl, ⟨HM.out.1, HM.out.2, rfl⟩, Touch.refl _ _⟩
  case round =>
    obtain ⟨s1, rfl, hkeep, hT⟩ := hrel
    by_cases hg : greyAt s1 < s1.length
    · have hstep := step_any wr base p F kind s1 hkeep.out.1 hkeep.out.2.1
      simp only [if_pos hg, decide_eq_true hg] at hstep
      have hpot := pot_step hg
      have hone := stepsAll_step hg
      have hinv := hkeep.out.2.1.stepI hg
      obtain ⟨s2, hs2⟩ : ∃ s2, stepI s1 = s2 := ⟨_, rfl⟩
      rw [hs2] at hstep hpot hone hinv
      have HS := Lib.hid (And.intro hstep (And.intro (hkeep.out.2.2.trans hone) hinv)); clear hstep hone hs2 hg hinv hkeep
      go_wp2_with fail
      refine HS.out.1.mono ?_
      rintro e w5 ⟨rfl, h5a, h5b⟩
      have HF := Lib.hid (And.intro h5a (hT.trans h5b)); clear h5a h5b
      go_wp2_with fail
      go_roundg (pot s2)
      case measure => exact hpot
      case rel => exact ⟨s2, rfl, ⟨HF.out.1, HS.out.2.2, HS.out.2.1⟩, HF.out.2⟩
    · have hstep := step_any wr base p F kind s1 hkeep.out.1 hkeep.out.2.1
      simp only [if_neg hg, decide_eq_false hg] at hstep
      have hend : (stepsI (pot s) s).1 = s1 := hkeep.out.2.2.trans (stepsAll_none hg)
      have hsm := hkeep.out.2.1.small
      have HS := Lib.hid (And.intro hstep hend); clear hstep hend hg hkeep
      go_wp2_with fail
      refine HS.out.1.mono ?_
      rintro e w5 ⟨rfl, h5a, h5b⟩
      obtain ⟨A5, c5, l5, m1, m2, m3, m4, m5⟩ := h5a
      have hll : s1.length = l5.length := by rw [← m5, its_length]
      obtain ⟨N, hN⟩ : ∃ N, l5.length = N := ⟨_, rfl⟩
      have c2 := m1.cell 2 (v := .slice A5 l5.length c5) rfl
      rw [hN] at c2 hll
      have HF := Lib.hid (And.intro (show Mkr w5 base F p kind true s1 from ⟨A5, c5, l5, m1, m2, m3, m4, m5⟩) (And.intro (hT.trans h5b) (And.intro hll HS.out.2))); clear m1 m2 m3 m5 hll hN h5b hT HS
      have hN100 : N ≤ 100 := by have := HF.out.2.2.1; omega
      go_wp2_with fail
      clear c2
      go_loopg [4, 18] N (fun gk mv iv wq => ∃ (k m : Nat), k ≤ N ∧ gk = N - k ∧ iv = .int .i64 k ∧ mv = .int .i64 m ∧ m ≤ k ∧ Hid (Mkr wq base F p kind true (sweepK k s1) ∧ whiteN (s1.take k) = m) ∧ Touch F w wq)
      case atStart => exact ⟨0, 0, Nat.zero_le _, rfl, rfl, rfl, Nat.le_refl _, ⟨by rw [sweepK_zero]; exact HF.out.1, rfl⟩, HF.out.2.1⟩
      case round =>
        obtain ⟨k, m, hk, rfl, rfl, rfl, hm, hkeep, hT⟩ := hrel
        obtain ⟨Aq, cq, lq, k1, k2, k3, k4, k5⟩ := hkeep.out.1
        have hlq : lq.length = N := by rw [← its_length, k5, sweepK_length, HF.out.2.2.1]
        rw [hlq] at k1
        have c2 := k1.cell 2 (v := .slice Aq N cq) rfl
        by_cases hlt : k < N
        · obtain ⟨x, hx⟩ : ∃ x, lq[k]? = some x := ⟨_, List.getElem?_eq_getElem (by omega)⟩
          obtain ⟨g, rfl, hg1, hg2, q0, q1, q2⟩ := k2.cells hx
          obtain ⟨y, hsx⟩ : ∃ y, s1[k]? = some y := ⟨_, List.getElem?_eq_getElem (by have := HF.out.2.2.1; omega)⟩
          have hyx : y = x.it := by
            have h1 := sweepK_get k s1 k hsx
            rw [if_neg (by omega), ← k5, its_get hx] at h1
            injection h1 with h1; exact h1.symm
          subst hyx
          have hwn := whiteN_step s1 k hsx
          have b0 : (0 : Int) ≤ (k : Int) := by omega
          have b1 : (k : Int) < (N : Int) := by omega
          obtain ⟨v, hv⟩ : ∃ v, x.st = v := ⟨_, rfl⟩
          have hv' : x.it.st = v := hv
          rw [hv] at q1
          rw [hv'] at hwn
          have z0 := k2.row.frozen (g := g) rfl (k * 3)
          have z1 := k2.row.frozen (g := g) rfl (k * 3 + 1)
          have z2 := k2.row.frozen (g := g) rfl (k * 3 + 2)
          have hne : p ≠ g := fun e => own_ne_ty k2.row k1 (by decide) (by rw [← e]; rfl)
          have hgF := k2.foot g rfl
          by_cases h0 : v = 0
          · subst h0
            have hsw := sweepK_step k s1 (fun _ => ⟨[], 3, false⟩) hsx (sweep1_white hv').symm
            have hgone := k2.setGone hx (by decide) 3 (by unfold I64; omega)
            have hits := its_set lq k x ⟨none, 0, [], 3, false⟩ (fun _ => ⟨[], 3, false⟩) hx rfl
            rw [k5] at hits
            have hbl := ((k1.far (p := ⟨g, k * 3, none⟩) hne (.slice none 0 0)).far (p := ⟨g, k * 3 + 1, none⟩) hne (.int .i64 3)).far (p := ⟨g, k * 3 + 2, none⟩) hne (.bool false)
            have hln : (lq.set k ⟨none, 0, [], 3, false⟩).length = N := by rw [List.length_set]; exact hlq
            have HX := Lib.hid (And.intro hsw (And.intro hgone (And.intro hits (And.intro hbl (And.intro hln (And.intro hwn (And.intro hkeep.out.2 k3))))))); clear hsw hgone hits hbl hln hwn hkeep k1 k2 k3 k5 hlq hx hsx hv hv'
            go_wp2_with fail
            go_roundg (N - (k + 1))
            case measure => omega
            case rel => exact ⟨k + 1, m + 1, by omega, rfl, by go_num, by go_num, by omega, ⟨⟨_, cq, _, by rw [HX.out.2.2.2.2.1]; exact HX.out.2.2.2.1, HX.out.2.1, HX.out.2.2.2.2.2.2.2, h4, by rw [HX.out.2.2.1, HX.out.1]⟩, by rw [HX.out.2.2.2.2.2.1, HX.out.2.2.2.2.2.2.1]; rfl⟩, ((hT.setCell hgF _).setCell hgF _).setCell hgF _⟩
          · by_cases h2 : v = 2
            · subst h2
              have hsw := sweepK_step k s1 (It.setst 0) hsx (sweep1_black hv').symm
              have hset := k2.setSt hx (by decide) 0 (by unfold I64; omega)
              have hits := its_set lq k x { x with st := 0 } (It.setst 0) hx rfl
              rw [k5] at hits
              have hbl := k1.far (p := ⟨g, k * 3 + 1, none⟩) hne (.int .i64 0)
              have hln : (lq.set k { x with st := 0 }).length = N := by rw [List.length_set]; exact hlq
              rw [if_neg h0, Nat.add_zero] at hwn
              have HX := Lib.hid (And.intro hsw (And.intro hset (And.intro hits (And.intro hbl (And.intro hln (And.intro hwn (And.intro hkeep.out.2 k3))))))); clear hsw hset hits hbl hln hwn hkeep k1 k2 k3 k5 hlq hx hsx hv hv' h0 q0 q2
              go_wp2_with fail
              go_roundg (N - (k + 1))
              case measure => omega
              case rel => exact ⟨k + 1, m, by omega, rfl, by go_num, rfl, by omega, ⟨⟨_, cq, _, by rw [HX.out.2.2.2.2.1]; exact HX.out.2.2.2.1, HX.out.2.1, HX.out.2.2.2.2.2.2.2, h4, by rw [HX.out.2.2.1, HX.out.1]⟩, by rw [HX.out.2.2.2.2.2.1]; exact HX.out.2.2.2.2.2.2.1⟩, hT.setCell hgF _⟩
            · have hsw := sweepK_id hsx (sweep1_other (by rw [hv']; exact h0) (by rw [hv']; exact h2))
              have d0 : (v == 0) = false := by simpa using h0
              have d2 : (v == 2) = false := by simpa using h2
              rw [if_neg h0, Nat.add_zero] at hwn
              have HX := Lib.hid (And.intro hsw (And.intro hwn hkeep.out)); clear hsw hwn hkeep k1 k2 k3 k5 hlq hx hsx hv hv' h0 h2 q0 q2
              go_wp2_with fail
              go_roundg (N - (k + 1))
              case measure => omega
              case rel => exact ⟨k + 1, m, by omega, rfl, by go_num, rfl, by omega, ⟨by rw [HX.out.1]; exact HX.out.2.2.1, by rw [HX.out.2.1]; exact HX.out.2.2.2⟩, hT⟩
        · obtain rfl : N = k := by omega
          have zp := k1.frozen 1
          have cp := k1.cell 1 (v := .bool true) rfl
          have hf2 := hkeep.out.2
          have hsl : s1.take N = s1 := List.take_of_length_le (by have := HF.out.2.2.1; omega)
          rw [hsl] at hf2
          have hk5 : sweepK N s1 = s1.map sweep1 := by rw [← HF.out.2.2.1, sweepK_all]
          have hfin : Mkr (wr.setCell ⟨p, 1, none⟩ (.bool false)) base F p kind false (endI s) := ⟨Aq, cq, lq, by rw [hlq]; exact k1.set_ 1 _, k2.far_blk k1 (by decide) (by decide) _ _, k3, k4, by rw [k5, hk5]; unfold endI; rw [HF.out.2.2.2]⟩
          have hTf := hT.setCell (p := ⟨p, 1, none⟩) k3 (.bool false)
          have HE := Lib.hid (And.intro hfin (And.intro hTf hf2)); clear hfin hTf hf2 hsl hk5 k1 k2 k3 k5 hlq hkeep c2
          go_wp2_with fail
          go_ret2
          refine ⟨?_, HE.out.1, HE.out.2.1⟩
          have : endN s = m := by unfold endN; rw [HF.out.2.2.2]; exact HE.out.2.2
          rw [this]; rfl

end Go.Proofs.Ytpkccpegdpodoaa
