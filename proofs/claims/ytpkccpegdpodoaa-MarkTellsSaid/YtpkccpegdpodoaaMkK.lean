/- mark: begin, steps, end. -/
import Derived.Test.YtpkccpegdpodoaaMkJ
namespace Go.Proofs.Ytpkccpegdpodoaa
open Go.RowKit

attribute [local go_sem ↓] Go.wp_at_zero Go.wp_at_succ

theorem MkrA.touchless {w w' : World} {base p : Nat} {F : Nat → Prop} {kind : Int} {mk : Bool} {A : Option Addr} {c : Nat} {s : List It} (h : MkrA w base F p kind mk A c s) (hb : Below w.heap.size w w') : MkrA w' base F p kind mk A c s := by
  obtain ⟨l, h1, h2, h3, h4, h5⟩ := h
  exact ⟨l, h1.fresh hb, h2.fresh hb, h3, h4, h5⟩

theorem begin_no (w : World) (base p : Nat) (F : Nat → Prop) (kind : Int) (s : List It) (h : Mkr w base F p kind true s) :
    Calls Try.prog 125 #[.pointer (some ⟨p, 0, none⟩)] w fun e w' => e = .returned (.tuple #[.int .i64 0, .int .i64 8]) ∧ w = w' := by
  obtain ⟨A, c, l, h1, h2, h3, h4, h5⟩ := h
  have c1 := h1.cell 1 (v := .bool true) rfl
  clear h1 h2 h5
  go_enter Try.func125, Try.ntmps125
  go_wp2
  go_ret2
  exact ⟨rfl, rfl⟩

set_option maxHeartbeats 1600000 in
set_option maxRecDepth 100000 in
theorem begin_yes (w : World) (base p : Nat) (F : Nat → Prop) (kind : Int) (s : List It) (h : Mkr w base F p kind false s) (hs : s.length ≤ 100) :
    Calls Try.prog 125 #[.pointer (some ⟨p, 0, none⟩)] w fun e w' => e = .returned (.tuple #[.int .i64 (heldN s), .int .i64 0]) ∧ Mkr w' base F p kind true (beginI s) ∧ Touch F w w' := by
  obtain ⟨A, c, l, h1, h2, h3, h4, h5⟩ := h
  have hll : s.length = l.length := by rw [← h5, its_length]
  obtain ⟨N, hN⟩ : ∃ N, l.length = N := ⟨_, rfl⟩
  rw [hN] at h1 hll
  have c1 := h1.cell 1 (v := .bool false) rfl
  have z1 := h1.frozen 1
  have b1 := h1.set_ 1 (.bool true)
  have b2 := h2.far_blk h1 (by decide) (by decide) 1 (.bool true)
  have c2 := b1.cell 2 (v := .slice A N c) rfl
  have hA0 : MkrA (w.setCell ⟨p, 1, none⟩ (.bool true)) base F p kind true A c (beginK 0 s) := ⟨l, by rw [hN]; exact b1, b2, h3, h4, by rw [beginK_zero]; exact h5⟩
  have hN100 : N ≤ 100 := by omega
  have H := Lib.hid (And.intro hA0 (And.intro hll ((Touch.refl F w).setCell (p := ⟨p, 1, none⟩) h3 (.bool true)))); clear h1 h2 h5 hll hN b1 b2 hA0
  go_enter Try.func125, Try.ntmps125
  go_wp2_with fail
  clear c1 c2 z1
  go_loopg [4, 19] N (fun gk mv iv wr => ∃ (k m : Nat), k ≤ N ∧ gk = N - k ∧ iv = .int .i64 k ∧ mv = .int .i64 m ∧ m ≤ k ∧ Hid (MkrA wr base F p kind true A c (beginK k s) ∧ heldN (s.take k) = m) ∧ Touch F w wr)
  case atStart => exact ⟨0, 0, Nat.zero_le _, rfl, rfl, rfl, Nat.le_refl _, ⟨H.out.1, rfl⟩, H.out.2.2⟩
  case round =>
    obtain ⟨k, m, hk, rfl, rfl, rfl, hm, hkeep, hT⟩ := hrel
    by_cases hlt : k < N
    · obtain ⟨lk, k1, k2, k3, k4, k5⟩ := hkeep.out.1
      have hlk : lk.length = N := by rw [← its_length, k5, beginK_length, H.out.2.1]
      obtain ⟨x, hx⟩ : ∃ x, lk[k]? = some x := ⟨_, List.getElem?_eq_getElem (by omega)⟩
      obtain ⟨g, rfl, hg1, hg2, q0, q1, q2⟩ := k2.cells hx
      have hsx0 : ∃ y, s[k]? = some y := ⟨_, List.getElem?_eq_getElem (by have := H.out.2.1; omega)⟩
      obtain ⟨y, hsx⟩ := hsx0
      have hyx : y = x.it := by
        have h1 := beginK_get k s k hsx
        rw [if_neg (by omega), ← k5, its_get hx] at h1
        injection h1 with h1; exact h1.symm
      have hst := beginK_step k s hsx
      have hhn := heldN_step s k hsx
      rw [hyx] at hst hhn
      have b0 : (0 : Int) ≤ (k : Int) := by omega
      have b1 : (k : Int) < (N : Int) := by omega
      obtain ⟨xb, hxb⟩ : ∃ b, x.held = b := ⟨_, rfl⟩
      have hxb' : x.it.held = xb := hxb
      rw [hxb] at q2
      rw [hxb'] at hst hhn
      have HX := Lib.hid (And.intro hst (And.intro hhn (And.intro hkeep.out.1 hkeep.out.2))); clear k1 k2 k5 hlk hx hsx hyx hst hhn hkeep hxb hxb'
      cases xb with
      | false =>
        go_wp2_with fail
        go_roundg (N - (k + 1))
        case measure => omega
        case rel => exact ⟨k + 1, m, by omega, rfl, by go_num, rfl, by omega, ⟨by rw [HX.out.1]; exact HX.out.2.2.1.touchless ((Below.refl _ _).alloc (Nat.le_refl _) _), by rw [HX.out.2.1, HX.out.2.2.2]; rfl⟩, hT.alloc _⟩
      | true =>
        go_wp2_with fail
        refine (mshadeA_any _ base p F kind (k : Int) true (some ⟨g, 0, none⟩) c (beginK k s) (HX.out.2.2.1.touchless ((Below.refl _ _).alloc (Nat.le_refl _) _)) (.inr ⟨k, rfl, by rw [beginK_length, H.out.2.1]; exact hlt⟩) (by rw [beginK_length, H.out.2.1]; omega)).mono ?_
        rintro e w5 ⟨rfl, h5a, h5b, h5c, h5d⟩
        have HF := Lib.hid (And.intro h5a ((hT.alloc _).trans h5b)); clear h5a h5b h5c h5d q0 q1 q2
        go_wp2_with fail
        go_roundg (N - (k + 1))
        case measure => omega
        case rel => exact ⟨k + 1, m + 1, by omega, rfl, by go_num, by go_num, by omega, ⟨by rw [HX.out.1]; exact HF.out.1, by rw [HX.out.2.1, HX.out.2.2.2]; rfl⟩, HF.out.2⟩
    · obtain rfl : N = k := by omega
      have hf1 := hkeep.out.1
      have hf2 := hkeep.out.2
      rw [List.take_of_length_le (by have := H.out.2.1; omega)] at hf2
      rw [← H.out.2.1, beginK_all] at hf1
      have HF := Lib.hid (And.intro hf1 hf2); clear hf1 hf2 hkeep
      go_wp2_with fail
      go_ret2
      exact ⟨by rw [HF.out.2]; rfl, ⟨A, c, HF.out.1⟩, hT⟩

theorem steps_no (w : World) (base p : Nat) (F : Nat → Prop) (kind n : Int) (s : List It) (h : Mkr w base F p kind false s) :
    Calls Try.prog 126 #[.pointer (some ⟨p, 0, none⟩), .int .i64 n] w fun e w' => e = .returned (.tuple #[.int .i64 0, .int .i64 8]) ∧ w = w' := by
  obtain ⟨A, c, l, h1, h2, h3, h4, h5⟩ := h
  have c1 := h1.cell 1 (v := .bool false) rfl
  clear h1 h2 h5
  go_enter Try.func126, Try.ntmps126
  go_wp2
  go_ret2
  exact ⟨rfl, rfl⟩
theorem steps_neg (w : World) (base p : Nat) (F : Nat → Prop) (kind n : Int) (s : List It) (h : Mkr w base F p kind true s) (hn : n < 0) :
    Calls Try.prog 126 #[.pointer (some ⟨p, 0, none⟩), .int .i64 n] w fun e w' => e = .returned (.tuple #[.int .i64 0, .int .i64 1]) ∧ w = w' := by
  obtain ⟨A, c, l, h1, h2, h3, h4, h5⟩ := h
  have c1 := h1.cell 1 (v := .bool true) rfl
  clear h1 h2 h5
  go_enter Try.func126, Try.ntmps126
  go_wp2
  go_ret2
  exact ⟨rfl, rfl⟩

theorem stepsI_one (n : Nat) (s : List It) (h : greyAt s < s.length) : stepsI (n + 1) s = ((stepsI n (stepI s)).1, (stepsI n (stepI s)).2 + 1) := by
  show (if greyAt s < s.length then ((stepsI n (stepI s)).1, (stepsI n (stepI s)).2 + 1) else (s, 0)) = _
  rw [if_pos h]
theorem stepsI_none (n : Nat) (s : List It) (h : ¬ greyAt s < s.length) : stepsI n s = (s, 0) := by
  cases n with
  | zero => rfl
  | succ n =>
    show (if greyAt s < s.length then ((stepsI n (stepI s)).1, (stepsI n (stepI s)).2 + 1) else (s, 0)) = _
    rw [if_neg h]

set_option maxHeartbeats 1600000 in
set_option maxRecDepth 100000 in
theorem steps_yes (w : World) (base p n : Nat) (F : Nat → Prop) (kind : Int) (s : List It) (h : Mkr w base F p kind true s) (hi : MInv kind true s) (hn : n ≤ 9223372036854775807) :
    Calls Try.prog 126 #[.pointer (some ⟨p, 0, none⟩), .int .i64 n] w fun e w' => e = .returned (.tuple #[.int .i64 (stepsI n s).2, .int .i64 0]) ∧ Mkr w' base F p kind true (stepsI n s).1 ∧ Touch F w w' := by
  have HM := Lib.hid (And.intro h hi)
  obtain ⟨A, c, l, h1, h2, h3, h4, h5⟩ := h
  have c1 := h1.cell 1 (v := .bool true) rfl
  clear h1 h2 h5 hi
  have hn0 : (0 : Int) ≤ (n : Int) := by omega
  go_enter Try.func126, Try.ntmps126
  go_wp2_with fail
  clear c1
  go_loopg [6] (pot s) (fun gk mv wr => ∃ (k : Nat) (s1 : List It), k ≤ n ∧ mv = .int .i64 k ∧ gk = pot s1 ∧ Hid (Mkr wr base F p kind true s1 ∧ MInv kind true s1 ∧ (stepsI n s).1 = (stepsI (n - k) s1).1 ∧ (stepsI n s).2 = k + (stepsI (n - k) s1).2) ∧ Touch F w wr)
  case atStart => exact ⟨0, s, Nat.zero_le _, rfl, rfl, ⟨HM.out.1, HM.out.2, rfl, by simp⟩, Touch.refl _ _⟩
  case round =>
    obtain ⟨k, s1, hk, rfl, rfl, hkeep, hT⟩ := hrel
    by_cases hlt : k < n
    · have hlt2 : (k : Int) < (n : Int) := by omega
      by_cases hg : greyAt s1 < s1.length
      · have hstep := step_any wr base p F kind s1 hkeep.out.1 hkeep.out.2.1
        simp only [if_pos hg, decide_eq_true hg] at hstep
        have hpot := pot_step hg
        have hone := stepsI_one (n - (k + 1)) s1 hg
        have hnk : n - k = n - (k + 1) + 1 := by omega
        have hinv := hkeep.out.2.1.stepI hg
        obtain ⟨s2, hs2⟩ : ∃ s2, stepI s1 = s2 := ⟨_, rfl⟩
        rw [hs2] at hstep hpot hone hinv
        have e1 := hkeep.out.2.2.1
        have e2 := hkeep.out.2.2.2
        rw [hnk, hone] at e1 e2
        simp only at e1 e2
        have HS := Lib.hid (And.intro hstep (And.intro e1 (And.intro e2 hinv))); clear hstep hone hnk hs2 e1 e2 hg hinv hkeep
        go_wp2_with fail
        refine HS.out.1.mono ?_
        rintro e w5 ⟨rfl, h5a, h5b⟩
        have HF := Lib.hid (And.intro h5a (hT.trans h5b)); clear h5a h5b
        go_wp2_with fail
        go_roundg (pot s2)
        case measure => exact hpot
        case rel => exact ⟨k + 1, s2, by omega, by go_num, rfl, ⟨HF.out.1, HS.out.2.2.2, HS.out.2.1, by have := HS.out.2.2.1; omega⟩, HF.out.2⟩
      · have hstep := step_any wr base p F kind s1 hkeep.out.1 hkeep.out.2.1
        simp only [if_neg hg, decide_eq_false hg] at hstep
        have hone := stepsI_none (n - k) s1 hg
        have e1 := hkeep.out.2.2.1
        have e2 := hkeep.out.2.2.2
        rw [hone] at e1 e2
        simp only [Nat.add_zero] at e1 e2
        have HS := Lib.hid (And.intro hstep (And.intro e1 e2)); clear hstep hone e1 e2 hg hkeep
        go_wp2_with fail
        refine HS.out.1.mono ?_
        rintro e w5 ⟨rfl, h5a, h5b⟩
        have HF := Lib.hid (And.intro h5a (hT.trans h5b)); clear h5a h5b
        go_wp2_with fail
        go_ret2
        exact ⟨by rw [HS.out.2.2]; rfl, by rw [HS.out.2.1]; exact HF.out.1, HF.out.2⟩
    · obtain rfl : n = k := by omega
      have e1 := hkeep.out.2.2.1
      have e2 := hkeep.out.2.2.2
      rw [Nat.sub_self] at e1 e2
      simp only [stepsI, Nat.add_zero] at e1 e2
      have HF := Lib.hid (And.intro hkeep.out.1 (And.intro e1 e2)); clear e1 e2 hkeep
      go_wp2_with fail
      go_ret2
      exact ⟨by rw [HF.out.2.2]; rfl, by rw [HF.out.2.1]; exact HF.out.1, hT⟩

end Go.Proofs.Ytpkccpegdpodoaa
