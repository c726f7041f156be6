/- R.Model: what is wrong with a holding. -/
import Derived.Test.YtpkccpegdpodoaaMkP
namespace Go.Proofs.Ytpkccpegdpodoaa
open Go.RowKit

attribute [local go_sem ↓] Go.wp_at_zero Go.wp_at_succ

set_option maxHeartbeats 1600000 in
set_option maxRecDepth 100000 in
theorem holdFault_any (w : World) (base p : Nat) (F : Nat → Prop) (nu kind dd a b n : Int) (mk : Bool) (s : List It) (h : Mdl w base F p nu kind mk s) (hi : Fine s) (hd : I64 a) :
    Calls Try.prog 132 #[.pointer (some ⟨p, 0, none⟩), .agg #[.int .i64 dd, .int .i64 a, .int .i64 b, .int .i64 n]] w fun e w' => e = .returned (.int .i64 (holdE s ⟨dd, a, b, n⟩)) ∧ Below w.heap.size w w' := by
  have hat : ∀ V : World, At (V.alloc (.cells #[.int .i64 a] 3)) (V.heap.size + 1) (some ⟨V.heap.size, 0, none⟩) [a] := fun V => At.built V _ _ [a] rfl (by
    intro z hz; simp at hz; subst hz; exact hd)
  have H := Lib.hid (And.intro h (And.intro hi hat)); clear h hi hd hat
  go_enter Try.func132, Try.ntmps132
  go_wp2_with fail
  refine calls_world (fun W => Blk W w.heap.size 97 #[.int .i64 dd, .int .i64 a, .int .i64 b, .int .i64 n] ∧ At W W.heap.size (some ⟨w.heap.size + 1, 0, none⟩) [a] ∧ Below w.heap.size w W ∧ w.heap.size < W.heap.size) ⟨(Blk.new w _ _).alloc _, ?_, ((Below.refl _ _).alloc (Nat.le_refl _) _).alloc (by simp) _, by simp; omega⟩ ?_
  · have := H.out.2.2 (w.alloc (.cells #[.int .i64 dd, .int .i64 a, .int .i64 b, .int .i64 n] 97))
    simpa using this
  rintro W ⟨hD, hAt, hbW, hsW⟩
  refine (rnamed_any W base p W.heap.size _ _ F nu kind mk s _ _ (H.out.1.fresh hbW) H.out.2.1 hAt (Nat.le_refl _) rfl (by simp)).mono ?_
  rintro e w1 ⟨rfl, hb1⟩
  have hs1 := hb1.size
  have hb : Below w.heap.size w w1 := hbW.trans (hb1.mono (by omega))
  have HD := Lib.hid (And.intro (hD.fresh hb1) (And.intro hb (H.out.1.fresh hb))); clear hD hAt hbW hb1 hb
  have e0 := HD.out.1.cell 0 (v := .int .i64 dd) rfl
  by_cases hn0 : namedE s [a] = 0
  · rw [hn0]
    obtain ⟨t, rfl, htl, -⟩ := namedE_zero hn0 a (by simp)
    obtain ⟨A, c, l, m1, m2, m3, m4, m5⟩ := HD.out.2.2
    have hll : l.length = s.length := by rw [← m5, its_length]
    obtain ⟨L, hL⟩ : ∃ L, l.length = L := ⟨_, rfl⟩
    rw [hL] at m1
    obtain ⟨x, hx⟩ : ∃ x, l[t]? = some x := ⟨_, List.getElem?_eq_getElem (by omega)⟩
    obtain ⟨g, rfl, hg1, hg2, q0, q1, q2⟩ := m2.cells hx
    have hsx : s[t]? = some x.it := by rw [← m5]; exact its_get hx
    have hhb : heldB s (t : Int) = x.held := by unfold heldB; rw [Int.toNat_natCast, hsx]; rfl
    obtain ⟨xb, hxb⟩ : ∃ b, x.held = b := ⟨_, rfl⟩
    rw [hxb] at q2 hhb
    have p0 := m1.cell 0 (v := .slice (some ⟨g, 0, none⟩) L c) rfl
    have e1 := HD.out.1.cell 1 (v := .int .i64 (t : Int)) rfl
    have t0 : (0 : Int) ≤ (t : Int) := by omega
    have t1 : (t : Int) < (L : Int) := by omega
    have HX := Lib.hid (And.intro hn0 hhb); clear m1 m2 m3 m5 hll hx hsx hhb hn0 hL htl hxb q0 q1
    by_cases h3 : dd = 3
    · subst h3
      cases xb with
      | false =>
        have HR := Lib.hid (holdE_state (d := ⟨3, (t : Int), b, n⟩) HX.out.1 ⟨rfl, HX.out.2⟩)
        go_wp2_with fail
        go_quiet (fail)
        go_wp2_with fail
        go_ret
        exact ⟨by rw [HR.out]; rfl, below_drewN HD.out.2.1 _⟩
      | true =>
        have HR := Lib.hid (holdE_ok (d := ⟨3, (t : Int), b, n⟩) HX.out.1 (by rw [HX.out.2]; simp))
        go_wp2_with fail
        go_quiet (fail)
        go_wp2_with fail
        go_ret
        exact ⟨by rw [HR.out]; rfl, below_drewN HD.out.2.1 _⟩
    · have HR := Lib.hid (holdE_ok (d := ⟨dd, (t : Int), b, n⟩) HX.out.1 (fun h => h3 h.1))
      have d3 : (dd == 3) = false := by simpa using h3
      clear h3
      go_wp2_with fail
      go_quiet (fail)
      go_wp2_with fail
      go_ret
      exact ⟨by rw [HR.out]; rfl, below_drewN HD.out.2.1 _⟩
  · have d1 : (namedE s [a] == 0) = false := by simpa using hn0
    obtain ⟨er, her⟩ : ∃ er, namedE s [a] = er := ⟨_, rfl⟩
    rw [her] at d1 ⊢
    have HER := Lib.hid (And.intro her hn0); clear her hn0
    go_wp2_with fail
    go_quiet (fail)
    go_wp2_with fail
    go_ret
    exact ⟨by rw [holdE_named HER.out.2, HER.out.1]; rfl, below_drewN HD.out.2.1 _⟩

end Go.Proofs.Ytpkccpegdpodoaa
