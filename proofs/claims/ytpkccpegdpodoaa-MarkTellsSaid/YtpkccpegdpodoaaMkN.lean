/- mark: hold. -/
import Derived.Test.YtpkccpegdpodoaaMkM
namespace Go.Proofs.Ytpkccpegdpodoaa
open Go.RowKit

attribute [local go_sem ↓] Go.wp_at_zero Go.wp_at_succ

theorem holdE_named {s : List It} {d : Dd} (h : namedE s [d.a] ≠ 0) : holdE s d = namedE s [d.a] := if_pos h
theorem holdE_state {s : List It} {d : Dd} (h : namedE s [d.a] = 0) (h2 : d.dd = 3 ∧ heldB s d.a = false) : holdE s d = 8 := by unfold holdE; rw [if_neg (by simpa using h), if_pos h2]
theorem holdE_ok {s : List It} {d : Dd} (h : namedE s [d.a] = 0) (h2 : ¬ (d.dd = 3 ∧ heldB s d.a = false)) : holdE s d = 0 := by unfold holdE; rw [if_neg (by simpa using h), if_neg h2]
/-- what a holding leaves -/
def HoldPost (base p : Nat) (F : Nat → Prop) (kind : Int) (mk : Bool) (s : List It) (d : Dd) (w : World) (e : Ending) (w' : World) : Prop :=
  e = .returned (.int .i64 (holdE s d)) ∧ Mkr w' base F p kind mk (if holdE s d = 0 then holdI kind mk d s else s) ∧ Touch F w w'
theorem HoldPost.no {base p : Nat} {F : Nat → Prop} {kind : Int} {mk : Bool} {s : List It} {d : Dd} {w w' : World} {e : Ending} {v : Int} (hv : holdE s d = v) (h0 : v ≠ 0) (he : e = .returned (.int .i64 v)) (hm : Mkr w' base F p kind mk s) (hT : Touch F w w') : HoldPost base p F kind mk s d w e w' := by
  unfold HoldPost
  rw [hv, if_neg h0]
  exact ⟨he, hm, hT⟩
theorem HoldPost.yes {base p : Nat} {F : Nat → Prop} {kind : Int} {mk : Bool} {s s' : List It} {d : Dd} {w w' : World} {e : Ending} (hv : holdE s d = 0) (hs : holdI kind mk d s = s') (he : e = .returned (.int .i64 0)) (hm : Mkr w' base F p kind mk s') (hT : Touch F w w') : HoldPost base p F kind mk s d w e w' := by
  unfold HoldPost
  rw [hv, if_pos rfl, hs]
  exact ⟨he, hm, hT⟩
theorem hold_fin {w : World} {base p t g c : Nat} {F : Nat → Prop} {kind : Int} {mk b : Bool} {s : List It} {l : List ItR} (h : MkrL w base F p kind mk (some ⟨g, 0, none⟩) c s l) (ht : t < s.length) :
    Mkr (w.setCell ⟨g, t * 3 + 2, none⟩ (.bool b)) base F p kind mk (s.modify t (It.sethl b)) ∧ F g ∧ (∃ v, w.cell? ⟨g, t * 3 + 2, none⟩ = some (.bool v)) ∧ w.frozen? ⟨g, t * 3 + 2, none⟩ = false ∧ w.cell? ⟨p, 2, none⟩ = some (.slice (some ⟨g, 0, none⟩) s.length c) := by
  obtain ⟨h1, h2, h3, h4, h5⟩ := h
  have hl : l.length = s.length := by rw [← h5, its_length]
  obtain ⟨x, hx⟩ : ∃ x, l[t]? = some x := ⟨_, List.getElem?_eq_getElem (by omega)⟩
  obtain ⟨g', hgg, -, -, -, -, q2⟩ := h2.cells hx
  injection hgg with hgg; injection hgg with hgg; subst hgg
  have hset := h2.setHeld hx (by decide) b
  have hits := its_set l t x { x with held := b } (It.sethl b) hx rfl
  rw [h5] at hits
  have hne : p ≠ g := fun e => own_ne_ty h2.row h1 (by decide) (by rw [← e]; rfl)
  exact ⟨⟨_, c, _, by rw [List.length_set]; exact h1.far (p := ⟨g, t * 3 + 2, none⟩) hne _, hset, h3, h4, hits⟩, h2.foot g rfl, ⟨_, q2⟩, h2.row.frozen rfl _, by rw [← hl]; exact h1.cell 2 rfl⟩

set_option maxHeartbeats 1600000 in
set_option maxRecDepth 100000 in
theorem hold_any (w : World) (base p : Nat) (F : Nat → Prop) (kind dd a b n : Int) (mk is : Bool) (s : List It) (h : Mkr w base F p kind mk s) (hi : MInv kind mk s) (hk : kind = 1 ∨ kind = 2) (hF : ∀ g, F g → g < w.heap.size) (ha : I64 a) (hdd : dd = 3 ∧ is = false ∨ dd = 4 ∧ is = true) :
    Calls Try.prog 124 #[.pointer (some ⟨p, 0, none⟩), .int .i64 a, .bool is] w (HoldPost base p F kind mk s ⟨dd, a, b, n⟩ w) := by
  obtain ⟨P, hP⟩ : ∃ P, HoldPost base p F kind mk s ⟨dd, a, b, n⟩ w = P := ⟨_, rfl⟩
  have HP := Lib.hid hP
  rw [hP]; clear hP
  have hp := h.fine_len
  have hat : At (w.alloc (.cells #[.int .i64 a] 3)) (w.heap.size + 1) (some ⟨w.heap.size, 0, none⟩) [a] := At.built w _ _ [a] rfl (by intro z hz; simp at hz; subst hz; exact ha)
  have H := Lib.hid (And.intro h (And.intro hi (And.intro hF hat))); clear h hi hF ha hat
  rcases hk with rfl | rfl <;> rcases hdd with ⟨rfl, rfl⟩ | ⟨rfl, rfl⟩
  · go_enter Try.func124, Try.ntmps124
    go_wp2_with fail
    refine calls_world (fun W => At W W.heap.size (some ⟨w.heap.size, 0, none⟩) [a] ∧ Below w.heap.size w W ∧ w.heap.size < W.heap.size) ⟨by have := H.out.2.2.2; simpa using this, (Below.refl _ _).alloc (Nat.le_refl _) _, by simp⟩ ?_
    rintro W ⟨hAt, hbW, hsW⟩
    refine (mnamed_any W base p W.heap.size 1 1 F 1 mk s _ _ (H.out.1.fresh hbW) H.out.2.1.fine hAt (Nat.le_refl _) rfl (by decide)).mono ?_
    rintro e w1 ⟨rfl, hb1⟩
    have hs1 := hb1.size
    have hb : Below w.heap.size w w1 := hbW.trans (hb1.mono (by omega))
    have HD := Lib.hid (And.intro hb (H.out.1.fresh hb)); clear hAt hbW hb1 hb
    by_cases hn0 : namedE s [a] = 0
    · rw [hn0]
      obtain ⟨t, rfl, htl, -⟩ := namedE_zero hn0 a (by simp)
      obtain ⟨A, c, l, m1, m2, m3, m4, m5⟩ := HD.out.2
      have hll : l.length = s.length := by rw [← m5, its_length]
      obtain ⟨L, hL⟩ : ∃ L, l.length = L := ⟨_, rfl⟩
      have hsL : s.length = L := by omega
      obtain ⟨x, hx⟩ : ∃ x, l[t]? = some x := ⟨_, List.getElem?_eq_getElem (by omega)⟩
      obtain ⟨g, rfl, hg1, hg2, q0, q1, q2⟩ := m2.cells hx
      have hsx : s[t]? = some x.it := by rw [← m5]; exact its_get hx
      have hhb : heldB s (t : Int) = x.held := by unfold heldB; rw [Int.toNat_natCast, hsx]; rfl
      obtain ⟨xb, hxb⟩ : ∃ b, x.held = b := ⟨_, rfl⟩
      rw [hxb] at q2 hhb
      have p2 := m1.cell 2 (v := .slice (some ⟨g, 0, none⟩) l.length c) rfl
      have p0 := m1.cell 0 (v := .int .i64 1) rfl
      rw [hL] at p2
      have t0 : (0 : Int) ≤ (t : Int) := by omega
      have t1 : (t : Int) < (L : Int) := by omega
      have HX := Lib.hid (And.intro (show MkrL w1 base F p 1 mk (some ⟨g, 0, none⟩) c s l from ⟨m1, m2, m3, m4, m5⟩) (And.intro htl (And.intro hhb (And.intro hn0 (And.intro hsL H.out.2.1.small))))); clear m1 m2 m3 m4 m5 hll hx hsx hhb hxb hn0 hL hsL htl q0 q1
      cases xb with
      | false =>
        go_wp2_with fail
        rw [← HP.out]
        exact HoldPost.no (holdE_state HX.out.2.2.2.1 ⟨rfl, HX.out.2.2.1⟩) (by decide) rfl HD.out.2 (Touch.ofBelow HD.out.1)
      | true =>
        obtain ⟨f1, f2, ⟨ov, f3⟩, f4, f5⟩ := hold_fin (t := t) (b := false) HX.out.1 HX.out.2.1
        have HQ := Lib.hid (And.intro f1 ((Touch.ofBelow HD.out.1).setCell (p := ⟨g, t * 3 + 2, none⟩) f2 (.bool false))); clear f1 f2 f5 f3
        go_wp2_with fail
        rw [← HP.out]
        exact HoldPost.yes (holdE_ok HX.out.2.2.2.1 (by rw [HX.out.2.2.1]; simp)) (by unfold holdI; simp) rfl HQ.out.1 HQ.out.2
    · have d1 : (namedE s [a] != 0) = true := by simpa using hn0
      obtain ⟨er, her⟩ : ∃ er, namedE s [a] = er := ⟨_, rfl⟩
      rw [her] at d1 ⊢
      have HER := Lib.hid (And.intro her hn0); clear her hn0
      go_wp2_with fail
      rw [← HP.out]
      exact HoldPost.no ((holdE_named HER.out.2).trans HER.out.1) (by rw [← HER.out.1]; exact HER.out.2) rfl HD.out.2 (Touch.ofBelow HD.out.1)
  · go_enter Try.func124, Try.ntmps124
    go_wp2_with fail
    refine calls_world (fun W => At W W.heap.size (some ⟨w.heap.size, 0, none⟩) [a] ∧ Below w.heap.size w W ∧ w.heap.size < W.heap.size) ⟨by have := H.out.2.2.2; simpa using this, (Below.refl _ _).alloc (Nat.le_refl _) _, by simp⟩ ?_
    rintro W ⟨hAt, hbW, hsW⟩
    refine (mnamed_any W base p W.heap.size 1 1 F 1 mk s _ _ (H.out.1.fresh hbW) H.out.2.1.fine hAt (Nat.le_refl _) rfl (by decide)).mono ?_
    rintro e w1 ⟨rfl, hb1⟩
    have hs1 := hb1.size
    have hb : Below w.heap.size w w1 := hbW.trans (hb1.mono (by omega))
    have HD := Lib.hid (And.intro hb (H.out.1.fresh hb)); clear hAt hbW hb1 hb
    by_cases hn0 : namedE s [a] = 0
    · rw [hn0]
      obtain ⟨t, rfl, htl, -⟩ := namedE_zero hn0 a (by simp)
      obtain ⟨A, c, l, m1, m2, m3, m4, m5⟩ := HD.out.2
      have hll : l.length = s.length := by rw [← m5, its_length]
      obtain ⟨L, hL⟩ : ∃ L, l.length = L := ⟨_, rfl⟩
      have hsL : s.length = L := by omega
      obtain ⟨x, hx⟩ : ∃ x, l[t]? = some x := ⟨_, List.getElem?_eq_getElem (by omega)⟩
      obtain ⟨g, rfl, hg1, hg2, q0, q1, q2⟩ := m2.cells hx
      have hsx : s[t]? = some x.it := by rw [← m5]; exact its_get hx
      have hhb : heldB s (t : Int) = x.held := by unfold heldB; rw [Int.toNat_natCast, hsx]; rfl
      obtain ⟨xb, hxb⟩ : ∃ b, x.held = b := ⟨_, rfl⟩
      rw [hxb] at q2 hhb
      have p2 := m1.cell 2 (v := .slice (some ⟨g, 0, none⟩) l.length c) rfl
      have p0 := m1.cell 0 (v := .int .i64 1) rfl
      rw [hL] at p2
      have t0 : (0 : Int) ≤ (t : Int) := by omega
      have t1 : (t : Int) < (L : Int) := by omega
      have HX := Lib.hid (And.intro (show MkrL w1 base F p 1 mk (some ⟨g, 0, none⟩) c s l from ⟨m1, m2, m3, m4, m5⟩) (And.intro htl (And.intro hhb (And.intro hn0 (And.intro hsL H.out.2.1.small))))); clear m1 m2 m3 m4 m5 hll hx hsx hhb hxb hn0 hL hsL htl q0 q1
      have hfin := fun (W5 : World) (l5 : List ItR) (h : MkrL W5 base F p 1 mk (some ⟨g, 0, none⟩) c (shadeI mk (t : Int) s) l5) => hold_fin (t := t) (b := true) h (by rw [shadeI_length]; exact HX.out.2.1)
      have HFI := Lib.hid hfin; clear hfin
      go_wp2_with fail
      refine (mshadeL_any w1 base p F 1 (t : Int) mk _ c s l HX.out.1 (.inr ⟨t, rfl, HX.out.2.1⟩) (by have := HX.out.2.2.2.2.2; omega)).mono ?_
      rintro e w5 ⟨rfl, ⟨l5, m5a, m5b⟩, m5c, m5d, m5e⟩
      obtain ⟨f1, f2, ⟨ov, f3⟩, f4, f5⟩ := HFI.out w5 l5 m5a
      rw [shadeI_length, HX.out.2.2.2.2.1] at f5
      have HQ := Lib.hid (And.intro f1 (((Touch.ofBelow HD.out.1).trans m5c).setCell (p := ⟨g, t * 3 + 2, none⟩) f2 (.bool true))); clear f1 f2 m5a m5b m5c m5d m5e p2 p0 q2
      go_wp2_with fail
      rw [← HP.out]
      exact HoldPost.yes (holdE_ok HX.out.2.2.2.1 (by simp)) (by unfold holdI; simp) rfl HQ.out.1 HQ.out.2
    · have d1 : (namedE s [a] != 0) = true := by simpa using hn0
      obtain ⟨er, her⟩ : ∃ er, namedE s [a] = er := ⟨_, rfl⟩
      rw [her] at d1 ⊢
      have HER := Lib.hid (And.intro her hn0); clear her hn0
      go_wp2_with fail
      rw [← HP.out]
      exact HoldPost.no ((holdE_named HER.out.2).trans HER.out.1) (by rw [← HER.out.1]; exact HER.out.2) rfl HD.out.2 (Touch.ofBelow HD.out.1)
  · go_enter Try.func124, Try.ntmps124
    go_wp2_with fail
    refine calls_world (fun W => At W W.heap.size (some ⟨w.heap.size, 0, none⟩) [a] ∧ Below w.heap.size w W ∧ w.heap.size < W.heap.size) ⟨by have := H.out.2.2.2; simpa using this, (Below.refl _ _).alloc (Nat.le_refl _) _, by simp⟩ ?_
    rintro W ⟨hAt, hbW, hsW⟩
    refine (mnamed_any W base p W.heap.size 1 1 F 2 mk s _ _ (H.out.1.fresh hbW) H.out.2.1.fine hAt (Nat.le_refl _) rfl (by decide)).mono ?_
    rintro e w1 ⟨rfl, hb1⟩
    have hs1 := hb1.size
    have hb : Below w.heap.size w w1 := hbW.trans (hb1.mono (by omega))
    have HD := Lib.hid (And.intro hb (H.out.1.fresh hb)); clear hAt hbW hb1 hb
    by_cases hn0 : namedE s [a] = 0
    · rw [hn0]
      obtain ⟨t, rfl, htl, -⟩ := namedE_zero hn0 a (by simp)
      obtain ⟨A, c, l, m1, m2, m3, m4, m5⟩ := HD.out.2
      have hll : l.length = s.length := by rw [← m5, its_length]
      obtain ⟨L, hL⟩ : ∃ L, l.length = L := ⟨_, rfl⟩
      have hsL : s.length = L := by omega
      obtain ⟨x, hx⟩ : ∃ x, l[t]? = some x := ⟨_, List.getElem?_eq_getElem (by omega)⟩
      obtain ⟨g, rfl, hg1, hg2, q0, q1, q2⟩ := m2.cells hx
      have hsx : s[t]? = some x.it := by rw [← m5]; exact its_get hx
      have hhb : heldB s (t : Int) = x.held := by unfold heldB; rw [Int.toNat_natCast, hsx]; rfl
      obtain ⟨xb, hxb⟩ : ∃ b, x.held = b := ⟨_, rfl⟩
      rw [hxb] at q2 hhb
      have p2 := m1.cell 2 (v := .slice (some ⟨g, 0, none⟩) l.length c) rfl
      have p0 := m1.cell 0 (v := .int .i64 2) rfl
      rw [hL] at p2
      have t0 : (0 : Int) ≤ (t : Int) := by omega
      have t1 : (t : Int) < (L : Int) := by omega
      have HX := Lib.hid (And.intro (show MkrL w1 base F p 2 mk (some ⟨g, 0, none⟩) c s l from ⟨m1, m2, m3, m4, m5⟩) (And.intro htl (And.intro hhb (And.intro hn0 (And.intro hsL H.out.2.1.small))))); clear m1 m2 m3 m4 m5 hll hx hsx hhb hxb hn0 hL hsL htl q0 q1
      cases xb with
      | false =>
        go_wp2_with fail
        rw [← HP.out]
        exact HoldPost.no (holdE_state HX.out.2.2.2.1 ⟨rfl, HX.out.2.2.1⟩) (by decide) rfl HD.out.2 (Touch.ofBelow HD.out.1)
      | true =>
        have hfin := fun (W5 : World) (l5 : List ItR) (h : MkrL W5 base F p 2 mk (some ⟨g, 0, none⟩) c (shadeI mk (t : Int) s) l5) => hold_fin (t := t) (b := false) h (by rw [shadeI_length]; exact HX.out.2.1)
        have HFI := Lib.hid hfin; clear hfin
        go_wp2_with fail
        refine (mshadeL_any w1 base p F 2 (t : Int) mk _ c s l HX.out.1 (.inr ⟨t, rfl, HX.out.2.1⟩) (by have := HX.out.2.2.2.2.2; omega)).mono ?_
        rintro e w5 ⟨rfl, ⟨l5, m5a, m5b⟩, m5c, m5d, m5e⟩
        obtain ⟨f1, f2, ⟨ov, f3⟩, f4, f5⟩ := HFI.out w5 l5 m5a
        rw [shadeI_length, HX.out.2.2.2.2.1] at f5
        have HQ := Lib.hid (And.intro f1 (((Touch.ofBelow HD.out.1).trans m5c).setCell (p := ⟨g, t * 3 + 2, none⟩) f2 (.bool false))); clear f1 f2 m5a m5b m5c m5d m5e p2 p0 q2
        go_wp2_with fail
        rw [← HP.out]
        exact HoldPost.yes (holdE_ok HX.out.2.2.2.1 (by rw [HX.out.2.2.1]; simp)) (by unfold holdI; simp) rfl HQ.out.1 HQ.out.2
    · have d1 : (namedE s [a] != 0) = true := by simpa using hn0
      obtain ⟨er, her⟩ : ∃ er, namedE s [a] = er := ⟨_, rfl⟩
      rw [her] at d1 ⊢
      have HER := Lib.hid (And.intro her hn0); clear her hn0
      go_wp2_with fail
      rw [← HP.out]
      exact HoldPost.no ((holdE_named HER.out.2).trans HER.out.1) (by rw [← HER.out.1]; exact HER.out.2) rfl HD.out.2 (Touch.ofBelow HD.out.1)
  · go_enter Try.func124, Try.ntmps124
    go_wp2_with fail
    refine calls_world (fun W => At W W.heap.size (some ⟨w.heap.size, 0, none⟩) [a] ∧ Below w.heap.size w W ∧ w.heap.size < W.heap.size) ⟨by have := H.out.2.2.2; simpa using this, (Below.refl _ _).alloc (Nat.le_refl _) _, by simp⟩ ?_
    rintro W ⟨hAt, hbW, hsW⟩
    refine (mnamed_any W base p W.heap.size 1 1 F 2 mk s _ _ (H.out.1.fresh hbW) H.out.2.1.fine hAt (Nat.le_refl _) rfl (by decide)).mono ?_
    rintro e w1 ⟨rfl, hb1⟩
    have hs1 := hb1.size
    have hb : Below w.heap.size w w1 := hbW.trans (hb1.mono (by omega))
    have HD := Lib.hid (And.intro hb (H.out.1.fresh hb)); clear hAt hbW hb1 hb
    by_cases hn0 : namedE s [a] = 0
    · rw [hn0]
      obtain ⟨t, rfl, htl, -⟩ := namedE_zero hn0 a (by simp)
      obtain ⟨A, c, l, m1, m2, m3, m4, m5⟩ := HD.out.2
      have hll : l.length = s.length := by rw [← m5, its_length]
      obtain ⟨L, hL⟩ : ∃ L, l.length = L := ⟨_, rfl⟩
      have hsL : s.length = L := by omega
      obtain ⟨x, hx⟩ : ∃ x, l[t]? = some x := ⟨_, List.getElem?_eq_getElem (by omega)⟩
      obtain ⟨g, rfl, hg1, hg2, q0, q1, q2⟩ := m2.cells hx
      have hsx : s[t]? = some x.it := by rw [← m5]; exact its_get hx
      have hhb : heldB s (t : Int) = x.held := by unfold heldB; rw [Int.toNat_natCast, hsx]; rfl
      obtain ⟨xb, hxb⟩ : ∃ b, x.held = b := ⟨_, rfl⟩
      rw [hxb] at q2 hhb
      have p2 := m1.cell 2 (v := .slice (some ⟨g, 0, none⟩) l.length c) rfl
      have p0 := m1.cell 0 (v := .int .i64 2) rfl
      rw [hL] at p2
      have t0 : (0 : Int) ≤ (t : Int) := by omega
      have t1 : (t : Int) < (L : Int) := by omega
      have HX := Lib.hid (And.intro (show MkrL w1 base F p 2 mk (some ⟨g, 0, none⟩) c s l from ⟨m1, m2, m3, m4, m5⟩) (And.intro htl (And.intro hhb (And.intro hn0 (And.intro hsL H.out.2.1.small))))); clear m1 m2 m3 m4 m5 hll hx hsx hhb hxb hn0 hL hsL htl q0 q1
      obtain ⟨f1, f2, ⟨ov, f3⟩, f4, f5⟩ := hold_fin (t := t) (b := true) HX.out.1 HX.out.2.1
      have HQ := Lib.hid (And.intro f1 ((Touch.ofBelow HD.out.1).setCell (p := ⟨g, t * 3 + 2, none⟩) f2 (.bool true))); clear f1 f2 f5 f3
      go_wp2_with fail
      rw [← HP.out]
      exact HoldPost.yes (holdE_ok HX.out.2.2.2.1 (by simp)) (by unfold holdI; simp) rfl HQ.out.1 HQ.out.2
    · have d1 : (namedE s [a] != 0) = true := by simpa using hn0
      obtain ⟨er, her⟩ : ∃ er, namedE s [a] = er := ⟨_, rfl⟩
      rw [her] at d1 ⊢
      have HER := Lib.hid (And.intro her hn0); clear her hn0
      go_wp2_with fail
      rw [← HP.out]
      exact HoldPost.no ((holdE_named HER.out.2).trans HER.out.1) (by rw [← HER.out.1]; exact HER.out.2) rfl HD.out.2 (Touch.ofBelow HD.out.1)

end Go.Proofs.Ytpkccpegdpodoaa
