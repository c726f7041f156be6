/- R.Model: what is wrong with a setting, with a holding. -/
import Derived.Test.YtpkccpegdpodoaaMkO
import Derived.BigQuiet
namespace Go.Proofs.Ytpkccpegdpodoaa
open Go.RowKit

attribute [local go_sem ↓] Go.wp_at_zero Go.wp_at_succ

set_option maxHeartbeats 1600000 in
set_option maxRecDepth 100000 in
theorem setFault_any (w : World) (base p : Nat) (F : Nat → Prop) (nu kind dd a b n : Int) (mk : Bool) (s : List It) (h : Mdl w base F p nu kind mk s) (hi : Fine s) (hd : I64 a ∧ I64 b ∧ I64 n) :
    Calls Try.prog 130 #[.pointer (some ⟨p, 0, none⟩), .agg #[.int .i64 dd, .int .i64 a, .int .i64 b, .int .i64 n]] w fun e w' => e = .returned (.int .i64 (setE s ⟨dd, a, b, n⟩)) ∧ Below w.heap.size w w' := by
  obtain ⟨i0, hi0, hz0, hz1, hz2⟩ := info_parts infoInt
  have hp : p < w.heap.size := by obtain ⟨A, c, l, h1, -⟩ := h; exact h1.lt
  have H := Lib.hid (And.intro h (And.intro hi hd)); clear h hi hd
  have hls : (b != -1) = false ∧ setL ⟨dd, a, b, n⟩ = [a] ∨ (b != -1) = true ∧ setL ⟨dd, a, b, n⟩ = [a] ++ [b] := by
    by_cases hb : b = -1
    · exact .inl ⟨by simpa using hb, if_pos hb⟩
    · exact .inr ⟨by simpa using hb, if_neg hb⟩
  have hat1 : ∀ V : World, At (V.alloc (.cells #[.int .i64 a] 3)) (V.heap.size + 1) (some ⟨V.heap.size, 0, none⟩) [a] := fun V => At.built V _ _ [a] rfl (by
    intro z hz; simp at hz; subst hz; exact H.out.2.2.1)
  have hat2 : ∀ V : World, At (V.alloc (.cells #[.int .i64 b] 3)) (V.heap.size + 1) (some ⟨V.heap.size, 0, none⟩) [b] := fun V => At.built V _ _ [b] rfl (by
    intro z hz; simp at hz; subst hz; exact H.out.2.2.2.1)
  have hown1 : ∀ V : World, w.heap.size ≤ V.heap.size → Own (V.alloc (.cells #[.int .i64 a] 3)) w.heap.size 3 (some ⟨V.heap.size, 0, none⟩) 1 [a] := fun V hV =>
    ⟨flat_length _, .inr ⟨V.heap.size, 1, #[.int .i64 a], rfl, hV, heap_alloc_new V _, Nat.le_refl _, by simp [maxLen], rfl, rfl⟩⟩
  have HA := Lib.hid (And.intro hat1 (And.intro hat2 hown1)); clear hat1 hat2 hown1
  rcases hls with ⟨d0, hl⟩ | ⟨d0, hl⟩
  all_goals
    have HL := Lib.hid hl; clear hl
    go_enter Try.func130, Try.ntmps130
    go_upto_region 4 with (at_builtin; go_must (refine wpList_app (α := Int) (n := 1) (m := 1) (B := (w.heap.size + 1 + 1) + 1) (r := [b]) rfl (.tmp 13) (.tmp 16) _ rfl w.heap.size 3 i0 _ 8 Try.underlying47 hi0 hz0 hz1 hz2 rfl (by decide) int_one (by rfl) (l := [a]) rfl (by have := (HA.out.2.2 (w.alloc (.cells #[.int .i64 dd, .int .i64 a, .int .i64 b, .int .i64 n] 97)) (by simp)).alloc (.cells #[.int .i64 b] 3); simpa using this) (by rfl) (by have := HA.out.2.1 ((w.alloc (.cells #[.int .i64 dd, .int .i64 a, .int .i64 b, .int .i64 n] 97)).alloc (.cells #[.int .i64 a] 3)); simpa using this) rfl (by omega) (by simp only [maxLen]; omega) (by simp; omega) ?_); intro A3 c3 w3 ho3 hgr3 hat3)
    first
      | (refine wp_world (fun W => Blk W w.heap.size 97 #[.int .i64 dd, .int .i64 a, .int .i64 b, .int .i64 n] ∧ At W W.heap.size A3 (setL ⟨dd, a, b, n⟩) ∧ Below w.heap.size w W ∧ w.heap.size < W.heap.size) ⟨?_, ?_, ?_, ?_⟩ ?_)
      | (refine wp_world (fun W => Blk W w.heap.size 97 #[.int .i64 dd, .int .i64 a, .int .i64 b, .int .i64 n] ∧ At W W.heap.size (some ⟨w.heap.size + 1, 0, none⟩) (setL ⟨dd, a, b, n⟩) ∧ Below w.heap.size w W ∧ w.heap.size < W.heap.size) ⟨?_, ?_, ?_, ?_⟩ ?_)
    · first
        | exact (Blk.new w _ _).alloc _
        | exact (((Blk.new w _ _).alloc _).alloc _).grown hgr3 (by simp [rowOf])
    · first
        | (rw [HL.out]; have := HA.out.1 (w.alloc (.cells #[.int .i64 dd, .int .i64 a, .int .i64 b, .int .i64 n] 97)); simpa using this)
        | (rw [HL.out]; exact ho3.at_ (by intro z hz; simp at hz; rcases hz with rfl | rfl; exact H.out.2.2.1; exact H.out.2.2.2.1))
    · first
        | exact ((Below.refl _ _).alloc (Nat.le_refl _) _).alloc (by simp) _
        | exact ((((Below.refl _ _).alloc (Nat.le_refl _) _).alloc (by simp) _).alloc (by simp; omega) _).grown hgr3 (by simp; omega) (by simp [rowOf])
    · first
        | (simp; omega)
        | (have := hgr3.size; simp only [World.size_alloc] at this; omega)
    rintro W ⟨hD, hAt, hbW, hsW⟩
    try clear ho3 hgr3 hat3
    go_wp2_with fail
    refine (rnamed_any W base p W.heap.size _ _ F nu kind mk s _ _ (H.out.1.fresh hbW) H.out.2.1 hAt (Nat.le_refl _) (by rw [HL.out]; rfl) (by decide)).mono ?_
    rintro e w1 ⟨rfl, hb1⟩
    have hs1 := hb1.size
    have hb : Below w.heap.size w w1 := hbW.trans (hb1.mono (by omega))
    have HD := Lib.hid (And.intro (hD.fresh hb1) (And.intro hb (H.out.1.fresh hb))); clear hD hAt hbW hb1 hb
    have e3 := HD.out.1.cell 3 (v := .int .i64 n) rfl
    by_cases hn0 : namedE s (setL ⟨dd, a, b, n⟩) = 0
    · rw [hn0]
      obtain ⟨t, rfl, htl, -⟩ := namedE_zero hn0 a (by rw [HL.out]; simp)
      obtain ⟨A, c, l, m1, m2, m3, m4, m5⟩ := HD.out.2.2
      have hll : l.length = s.length := by rw [← m5, its_length]
      obtain ⟨L, hL⟩ : ∃ L, l.length = L := ⟨_, rfl⟩
      rw [hL] at m1
      obtain ⟨x, hx⟩ : ∃ x, l[t]? = some x := ⟨_, List.getElem?_eq_getElem (by omega)⟩
      obtain ⟨g, rfl, hg1, hg2, q0, q1, q2⟩ := m2.cells hx
      have hsx : s[t]? = some x.it := by rw [← m5]; exact its_get hx
      have hat : hasAt s (t : Int) = x.has := by unfold hasAt; rw [Int.toNat_natCast, hsx]; rfl
      obtain ⟨xh, hxh⟩ : ∃ h, x.has = h := ⟨_, rfl⟩
      obtain ⟨xn, hxn⟩ : ∃ n, xh.length = n := ⟨_, rfl⟩
      rw [hxh, hxn] at q0
      rw [hxh] at hat
      have p0 := m1.cell 0 (v := .slice (some ⟨g, 0, none⟩) L c) rfl
      have e1 := HD.out.1.cell 1 (v := .int .i64 (t : Int)) rfl
      have t0 : (0 : Int) ≤ (t : Int) := by omega
      have t1 : (t : Int) < (L : Int) := by omega
      have HX := Lib.hid (And.intro hn0 (And.intro hat hxn)); clear m1 m2 m3 m5 hll hx hsx hxn hat hn0 hL htl hxh q1 q2
      by_cases hr0 : n < 0
      · have HR := Lib.hid (setE_range (d := ⟨dd, (t : Int), b, n⟩) HX.out.1 (.inl hr0))
        have dr : decide (n < 0) = true := by simpa using hr0
        go_wp2_with fail
        go_quiet (fail)
        go_wp2_with fail
        go_ret
        exact ⟨by rw [HR.out]; rfl, below_drewN HD.out.2.1 _⟩
      · by_cases hr1 : (xn : Int) ≤ n
        · have HR := Lib.hid (setE_range (d := ⟨dd, (t : Int), b, n⟩) HX.out.1 (.inr (by rw [HX.out.2.1, HX.out.2.2]; exact hr1)))
          have dr0 : decide (n < 0) = false := by simpa using hr0
          have dr1 : decide ((xn : Int) ≤ n) = true := by simpa using hr1
          go_wp2_with fail
          go_quiet (fail)
          go_wp2_with fail
          go_ret
          exact ⟨by rw [HR.out]; rfl, below_drewN HD.out.2.1 _⟩
        · have HR := Lib.hid (setE_ok (d := ⟨dd, (t : Int), b, n⟩) HX.out.1 (by rw [HX.out.2.1, HX.out.2.2]; simp only; omega))
          have dr0 : decide (n < 0) = false := by simpa using hr0
          have dr1 : decide ((xn : Int) ≤ n) = false := by simpa using hr1
          go_wp2_with fail
          go_quiet (fail)
          go_wp2_with fail
          go_ret
          exact ⟨by rw [HR.out]; rfl, below_drewN HD.out.2.1 _⟩
    · have d1 : (namedE s (setL ⟨dd, a, b, n⟩) == 0) = false := by simpa using hn0
      obtain ⟨er, her⟩ : ∃ er, namedE s (setL ⟨dd, a, b, n⟩) = er := ⟨_, rfl⟩
      rw [her] at d1 ⊢
      have HER := Lib.hid (And.intro her hn0); clear her hn0
      go_wp2_with fail
      go_quiet (fail)
      go_wp2_with fail
      go_ret
      exact ⟨by rw [setE_named HER.out.2, HER.out.1]; rfl, below_drewN HD.out.2.1 _⟩

end Go.Proofs.Ytpkccpegdpodoaa
