/- GM: MkN, MkO, MkP, MkQ, MarkP, MkR, GenL, GenM, GnA, GnB, GnC, GnD, GnE, Que, GnF, GnG, GnH, GnI, GenO, SrtI. -/
import Derived.Test.YtpkccpegdpodoaaGM1
import Derived.Test.YtpkccpegdpodoaaGM2
import Derived.BigQuiet
import Derived.Maps.OwnSet
import Derived.Maps.RangeWalk
import Derived.Deep.AppendSrc
import Derived.Shelf.SortM.Plain
import Derived.Shelf.SortM.SortNone
import Derived.Ground.SlgmProg
import Derived.Sort.OwnSortedInts
/- mark: hold. -/
namespace Go.Proofs.Ytpkccpegdpodoaa
open Go.RowKit

attribute [local go_sem ↓] Go.wp_at_zero Go.wp_at_succ

theorem holdE_named {s : List It} {d : Dd} (h : namedE s [d.a] ≠ 0) : holdE s d = namedE s [d.a] := if_pos h
theorem holdE_state {s : List It} {d : Dd} (h : namedE s [d.a] = 0) (h2 : d.dd = 3 ∧ heldB s d.a = false) : holdE s d = 8 := by unfold holdE; rw [if_neg (by simpa using h), if_pos h2]
theorem holdE_ok {s : List It} {d : Dd} (h : namedE s [d.a] = 0) (h2 : ¬ (d.dd = 3 ∧ heldB s d.a = false)) : holdE s d = 0 := by unfold holdE; rw [if_neg (by simpa using h), if_neg h2]
/-- what a holding leaves -/
def HoldPost (base p : Nat) (F : Nat → Prop) (kind : Int) (mk : Bool) (s : List It) (d : Dd) (w : World) (e : Ending) (w' : World) : Prop :=
  e = .returned (.int .i64 (holdE s d)) ∧ Mkr w' base F p kind mk (if holdE s d = 0 then holdI kind mk d s else s) ∧ Touch F w w'
theorem HoldPost.no {base p : Nat} {F : Nat → Prop} {kind : Int} {mk : Bool} {s : List It} {d : Dd} {w w' : World} {e : Ending} {v : Int} (hv : holdE s d = v) (h0 : v ≠ 0) (he : e = .returned (.int .i64 v)) (hm : Mkr w' base F p kind mk s) (hT : Touch F w w') : HoldPost base p F kind mk s d w e w' := by
  unfold HoldPost
  rw [hv, if_neg h0]
  exact ⟨he, hm, hT⟩
theorem HoldPost.yes {base p : Nat} {F : Nat → Prop} {kind : Int} {mk : Bool} {s s' : List It} {d : Dd} {w w' : World} {e : Ending} (hv : holdE s d = 0) (hs : holdI kind mk d s = s') (he : e = .returned (.int .i64 0)) (hm : Mkr w' base F p kind mk s') (hT : Touch F w w') : HoldPost base p F kind mk s d w e w' := by
  unfold HoldPost
  rw [hv, if_pos rfl, hs]
  exact ⟨he, hm, hT⟩
theorem hold_fin {w : World} {base p t g c : Nat} {F : Nat → Prop} {kind : Int} {mk b : Bool} {s : List It} {l : List ItR} (h : MkrL w base F p kind mk (some ⟨g, 0, none⟩) c s l) (ht : t < s.length) :
    Mkr (w.setCell ⟨g, t * 3 + 2, none⟩ (.bool b)) base F p kind mk (s.modify t (It.sethl b)) ∧ F g ∧ (∃ v, w.cell? ⟨g, t * 3 + 2, none⟩ = some (.bool v)) ∧ w.frozen? ⟨g, t * 3 + 2, none⟩ = false ∧ w.cell? ⟨p, 2, none⟩ = some (.slice (some ⟨g, 0, none⟩) s.length c) := by
  obtain ⟨h1, h2, h3, h4, h5⟩ := h
  have hl : l.length = s.length := by rw [← h5, its_length]
  obtain ⟨x, hx⟩ : ∃ x, l[t]? = some x := ⟨_, List.getElem?_eq_getElem (by omega)⟩
  obtain ⟨g', hgg, -, -, -, -, q2⟩ := h2.cells hx
  injection hgg with hgg; injection hgg with hgg; subst hgg
  have hset := h2.setHeld hx (by decide) b
  have hits := its_set l t x { x with held := b } (It.sethl b) hx rfl
  rw [h5] at hits
  have hne : p ≠ g := fun e => own_ne_ty h2.row h1 (by decide) (by rw [← e]; rfl)
  exact ⟨⟨_, c, _, by rw [List.length_set]; exact h1.far (p := ⟨g, t * 3 + 2, none⟩) hne _, hset, h3, h4, hits⟩, h2.foot g rfl, ⟨_, q2⟩, h2.row.frozen rfl _, by rw [← hl]; exact h1.cell 2 rfl⟩

set_option maxHeartbeats 1600000 in
set_option maxRecDepth 100000 in
theorem hold_any (w : World) (base p : Nat) (F : Nat → Prop) (kind dd a b n : Int) (mk is : Bool) (s : List It) (h : Mkr w base F p kind mk s) (hi : MInv kind mk s) (hk : kind = 1 ∨ kind = 2) (hF : ∀ g, F g → g < w.heap.size) (ha : I64 a) (hdd : dd = 3 ∧ is = false ∨ dd = 4 ∧ is = true) :
    Calls Try.prog 124 #[.pointer (some ⟨p, 0, none⟩), .int .i64 a, .bool is] w (HoldPost base p F kind mk s ⟨dd, a, b, n⟩ w) := by
  obtain ⟨P, hP⟩ : ∃ P, HoldPost base p F kind mk s ⟨dd, a, b, n⟩ w = P := ⟨_, rfl⟩
  have HP := Lib.hid hP
  rw [hP]; clear hP
  have hp := h.fine_len
  have hat : At (w.alloc (.cells #[.int .i64 a] 3)) (w.heap.size + 1) (some ⟨w.heap.size, 0, none⟩) [a] := At.built w _ _ [a] rfl (by intro z hz; simp at hz; subst hz; exact ha)
  have H := Lib.hid (And.intro h (And.intro hi (And.intro hF hat))); clear h hi hF ha hat
  rcases hk with rfl | rfl <;> rcases hdd with ⟨rfl, rfl⟩ | ⟨rfl, rfl⟩
  · go_enter Try.func124, Try.ntmps124
    go_wp2_with fail
    refine calls_world (fun W => At W W.heap.size (some ⟨w.heap.size, 0, none⟩) [a] ∧ Below w.heap.size w W ∧ w.heap.size < W.heap.size) ⟨by have := H.out.2.2.2; simpa using this, (Below.refl _ _).alloc (Nat.le_refl _) _, by simp⟩ ?_
    rintro W ⟨hAt, hbW, hsW⟩
    refine (mnamed_any W base p W.heap.size 1 1 F 1 mk s _ _ (H.out.1.fresh hbW) H.out.2.1.fine hAt (Nat.le_refl _) rfl (by decide)).mono ?_
    rintro e w1 ⟨rfl, hb1⟩
    have hs1 := hb1.size
    have hb : Below w.heap.size w w1 := hbW.trans (hb1.mono (by omega))
    have HD := Lib.hid (And.intro hb (H.out.1.fresh hb)); clear hAt hbW hb1 hb
    by_cases hn0 : namedE s [a] = 0
    · rw [hn0]
      obtain ⟨t, rfl, htl, -⟩ := namedE_zero hn0 a (by simp)
      obtain ⟨A, c, l, m1, m2, m3, m4, m5⟩ := HD.out.2
      have hll : l.length = s.length := by rw [← m5, its_length]
      obtain ⟨L, hL⟩ : ∃ L, l.length = L := ⟨_, rfl⟩
      have hsL : s.length = L := by omega
      obtain ⟨x, hx⟩ : ∃ x, l[t]? = some x := ⟨_, List.getElem?_eq_getElem (by omega)⟩
      obtain ⟨g, rfl, hg1, hg2, q0, q1, q2⟩ := m2.cells hx
      have hsx : s[t]? = some x.it := by rw [← m5]; exact its_get hx
      have hhb : heldB s (t : Int) = x.held := by unfold heldB; rw [Int.toNat_natCast, hsx]; rfl
      obtain ⟨xb, hxb⟩ : ∃ b, x.held = b := ⟨_, rfl⟩
      rw [hxb] at q2 hhb
      have p2 := m1.cell 2 (v := .slice (some ⟨g, 0, none⟩) l.length c) rfl
      have p0 := m1.cell 0 (v := .int .i64 1) rfl
      rw [hL] at p2
      have t0 : (0 : Int) ≤ (t : Int) := by omega
      have t1 : (t : Int) < (L : Int) := by omega
      have HX := Lib.hid (And.intro (show MkrL w1 base F p 1 mk (some ⟨g, 0, none⟩) c s l from ⟨m1, m2, m3, m4, m5⟩) (And.intro htl (And.intro hhb (And.intro hn0 (And.intro hsL H.out.2.1.small))))); clear m1 m2 m3 m4 m5 hll hx hsx hhb hxb hn0 hL hsL htl q0 q1
      cases xb with
      | false =>
        go_wp2_with fail
        rw [← HP.out]
        exact HoldPost.no (holdE_state HX.out.2.2.2.1 ⟨rfl, HX.out.2.2.1⟩) (by decide) rfl HD.out.2 (Touch.ofBelow HD.out.1)
      | true =>
        obtain ⟨f1, f2, ⟨ov, f3⟩, f4, f5⟩ := hold_fin (t := t) (b := false) HX.out.1 HX.out.2.1
        have HQ := Lib.hid (And.intro f1 ((Touch.ofBelow HD.out.1).setCell (p := ⟨g, t * 3 + 2, none⟩) f2 (.bool false))); clear f1 f2 f5 f3
        go_wp2_with fail
        rw [← HP.out]
        exact HoldPost.yes (holdE_ok HX.out.2.2.2.1 (by rw [HX.out.2.2.1]; simp)) (by unfold holdI; simp) rfl HQ.out.1 HQ.out.2
    · have d1 : (namedE s [a] != 0) = true := by simpa using hn0
      obtain ⟨er, her⟩ : ∃ er, namedE s [a] = er := ⟨_, rfl⟩
      rw [her] at d1 ⊢
      have HER := Lib.hid (And.intro her hn0); clear her hn0
      go_wp2_with fail
      rw [← HP.out]
      exact HoldPost.no ((holdE_named HER.out.2).trans HER.out.1) (by rw [← HER.out.1]; exact HER.out.2) rfl HD.out.2 (Touch.ofBelow HD.out.1)
  · go_enter Try.func124, Try.ntmps124
    go_wp2_with fail
    refine calls_world (fun W => At W W.heap.size (some ⟨w.heap.size, 0, none⟩) [a] ∧ Below w.heap.size w W ∧ w.heap.size < W.heap.size) ⟨by have := H.out.2.2.2; simpa using this, (Below.refl _ _).alloc (Nat.le_refl _) _, by simp⟩ ?_
    rintro W ⟨hAt, hbW, hsW⟩
    refine (mnamed_any W base p W.heap.size 1 1 F 1 mk s _ _ (H.out.1.fresh hbW) H.out.2.1.fine hAt (Nat.le_refl _) rfl (by decide)).mono ?_
    rintro e w1 ⟨rfl, hb1⟩
    have hs1 := hb1.size
    have hb : Below w.heap.size w w1 := hbW.trans (hb1.mono (by omega))
    have HD := Lib.hid (And.intro hb (H.out.1.fresh hb)); clear hAt hbW hb1 hb
    by_cases hn0 : namedE s [a] = 0
    · rw [hn0]
      obtain ⟨t, rfl, htl, -⟩ := namedE_zero hn0 a (by simp)
      obtain ⟨A, c, l, m1, m2, m3, m4, m5⟩ := HD.out.2
      have hll : l.length = s.length := by rw [← m5, its_length]
      obtain ⟨L, hL⟩ : ∃ L, l.length = L := ⟨_, rfl⟩
      have hsL : s.length = L := by omega
      obtain ⟨x, hx⟩ : ∃ x, l[t]? = some x := ⟨_, List.getElem?_eq_getElem (by omega)⟩
      obtain ⟨g, rfl, hg1, hg2, q0, q1, q2⟩ := m2.cells hx
      have hsx : s[t]? = some x.it := by rw [← m5]; exact its_get hx
      have hhb : heldB s (t : Int) = x.held := by unfold heldB; rw [Int.toNat_natCast, hsx]; rfl
      obtain ⟨xb, hxb⟩ : ∃ b, x.held = b := ⟨_, rfl⟩
      rw [hxb] at q2 hhb
      have p2 := m1.cell 2 (v := .slice (some ⟨g, 0, none⟩) l.length c) rfl
      have p0 := m1.cell 0 (v := .int .i64 1) rfl
      rw [hL] at p2
      have t0 : (0 : Int) ≤ (t : Int) := by omega
      have t1 : (t : Int) < (L : Int) := by omega
      have HX := Lib.hid (And.intro (show MkrL w1 base F p 1 mk (some ⟨g, 0, none⟩) c s l from ⟨m1, m2, m3, m4, m5⟩) (And.intro htl (And.intro hhb (And.intro hn0 (And.intro hsL H.out.2.1.small))))); clear m1 m2 m3 m4 m5 hll hx hsx hhb hxb hn0 hL hsL htl q0 q1
      have hfin := fun (W5 : World) (l5 : List ItR) (h : MkrL W5 base F p 1 mk (some ⟨g, 0, none⟩) c (shadeI mk (t : Int) s) l5) => hold_fin (t := t) (b := true) h (by rw [shadeI_length]; exact HX.out.2.1)
      have HFI := Lib.hid hfin; clear hfin
      go_wp2_with fail
      refine (mshadeL_any w1 base p F 1 (t : Int) mk _ c s l HX.out.1 (.inr ⟨t, rfl, HX.out.2.1⟩) (by have := HX.out.2.2.2.2.2; omega)).mono ?_
      rintro e w5 ⟨rfl, ⟨l5, m5a, m5b⟩, m5c, m5d, m5e⟩
      obtain ⟨f1, f2, ⟨ov, f3⟩, f4, f5⟩ := HFI.out w5 l5 m5a
      rw [shadeI_length, HX.out.2.2.2.2.1] at f5
      have HQ := Lib.hid (And.intro f1 (((Touch.ofBelow HD.out.1).trans m5c).setCell (p := ⟨g, t * 3 + 2, none⟩) f2 (.bool true))); clear f1 f2 m5a m5b m5c m5d m5e p2 p0 q2
      go_wp2_with fail
      rw [← HP.out]
      exact HoldPost.yes (holdE_ok HX.out.2.2.2.1 (by simp)) (by unfold holdI; simp) rfl HQ.out.1 HQ.out.2
    · have d1 : (namedE s [a] != 0) = true := by simpa using hn0
      obtain ⟨er, her⟩ : ∃ er, namedE s [a] = er := ⟨_, rfl⟩
      rw [her] at d1 ⊢
      have HER := Lib.hid (And.intro her hn0); clear her hn0
      go_wp2_with fail
      rw [← HP.out]
      exact HoldPost.no ((holdE_named HER.out.2).trans HER.out.1) (by rw [← HER.out.1]; exact HER.out.2) rfl HD.out.2 (Touch.ofBelow HD.out.1)
  · go_enter Try.func124, Try.ntmps124
    go_wp2_with fail
    refine calls_world (fun W => At W W.heap.size (some ⟨w.heap.size, 0, none⟩) [a] ∧ Below w.heap.size w W ∧ w.heap.size < W.heap.size) ⟨by have := H.out.2.2.2; simpa using this, (Below.refl _ _).alloc (Nat.le_refl _) _, by simp⟩ ?_
    rintro W ⟨hAt, hbW, hsW⟩
    refine (mnamed_any W base p W.heap.size 1 1 F 2 mk s _ _ (H.out.1.fresh hbW) H.out.2.1.fine hAt (Nat.le_refl _) rfl (by decide)).mono ?_
    rintro e w1 ⟨rfl, hb1⟩
    have hs1 := hb1.size
    have hb : Below w.heap.size w w1 := hbW.trans (hb1.mono (by omega))
    have HD := Lib.hid (And.intro hb (H.out.1.fresh hb)); clear hAt hbW hb1 hb
    by_cases hn0 : namedE s [a] = 0
    · rw [hn0]
      obtain ⟨t, rfl, htl, -⟩ := namedE_zero hn0 a (by simp)
      obtain ⟨A, c, l, m1, m2, m3, m4, m5⟩ := HD.out.2
      have hll : l.length = s.length := by rw [← m5, its_length]
      obtain ⟨L, hL⟩ : ∃ L, l.length = L := ⟨_, rfl⟩
      have hsL : s.length = L := by omega
      obtain ⟨x, hx⟩ : ∃ x, l[t]? = some x := ⟨_, List.getElem?_eq_getElem (by omega)⟩
      obtain ⟨g, rfl, hg1, hg2, q0, q1, q2⟩ := m2.cells hx
      have hsx : s[t]? = some x.it := by rw [← m5]; exact its_get hx
      have hhb : heldB s (t : Int) = x.held := by unfold heldB; rw [Int.toNat_natCast, hsx]; rfl
      obtain ⟨xb, hxb⟩ : ∃ b, x.held = b := ⟨_, rfl⟩
      rw [hxb] at q2 hhb
      have p2 := m1.cell 2 (v := .slice (some ⟨g, 0, none⟩) l.length c) rfl
      have p0 := m1.cell 0 (v := .int .i64 2) rfl
      rw [hL] at p2
      have t0 : (0 : Int) ≤ (t : Int) := by omega
      have t1 : (t : Int) < (L : Int) := by omega
      have HX := Lib.hid (And.intro (show MkrL w1 base F p 2 mk (some ⟨g, 0, none⟩) c s l from ⟨m1, m2, m3, m4, m5⟩) (And.intro htl (And.intro hhb (And.intro hn0 (And.intro hsL H.out.2.1.small))))); clear m1 m2 m3 m4 m5 hll hx hsx hhb hxb hn0 hL hsL htl q0 q1
      cases xb with
      | false =>
        go_wp2_with fail
        rw [← HP.out]
        exact HoldPost.no (holdE_state HX.out.2.2.2.1 ⟨rfl, HX.out.2.2.1⟩) (by decide) rfl HD.out.2 (Touch.ofBelow HD.out.1)
      | true =>
        have hfin := fun (W5 : World) (l5 : List ItR) (h : MkrL W5 base F p 2 mk (some ⟨g, 0, none⟩) c (shadeI mk (t : Int) s) l5) => hold_fin (t := t) (b := false) h (by rw [shadeI_length]; exact HX.out.2.1)
        have HFI := Lib.hid hfin; clear hfin
        go_wp2_with fail
        refine (mshadeL_any w1 base p F 2 (t : Int) mk _ c s l HX.out.1 (.inr ⟨t, rfl, HX.out.2.1⟩) (by have := HX.out.2.2.2.2.2; omega)).mono ?_
        rintro e w5 ⟨rfl, ⟨l5, m5a, m5b⟩, m5c, m5d, m5e⟩
        obtain ⟨f1, f2, ⟨ov, f3⟩, f4, f5⟩ := HFI.out w5 l5 m5a
        rw [shadeI_length, HX.out.2.2.2.2.1] at f5
        have HQ := Lib.hid (And.intro f1 (((Touch.ofBelow HD.out.1).trans m5c).setCell (p := ⟨g, t * 3 + 2, none⟩) f2 (.bool false))); clear f1 f2 m5a m5b m5c m5d m5e p2 p0 q2
        go_wp2_with fail
        rw [← HP.out]
        exact HoldPost.yes (holdE_ok HX.out.2.2.2.1 (by rw [HX.out.2.2.1]; simp)) (by unfold holdI; simp) rfl HQ.out.1 HQ.out.2
    · have d1 : (namedE s [a] != 0) = true := by simpa using hn0
      obtain ⟨er, her⟩ : ∃ er, namedE s [a] = er := ⟨_, rfl⟩
      rw [her] at d1 ⊢
      have HER := Lib.hid (And.intro her hn0); clear her hn0
      go_wp2_with fail
      rw [← HP.out]
      exact HoldPost.no ((holdE_named HER.out.2).trans HER.out.1) (by rw [← HER.out.1]; exact HER.out.2) rfl HD.out.2 (Touch.ofBelow HD.out.1)
  · go_enter Try.func124, Try.ntmps124
    go_wp2_with fail
    refine calls_world (fun W => At W W.heap.size (some ⟨w.heap.size, 0, none⟩) [a] ∧ Below w.heap.size w W ∧ w.heap.size < W.heap.size) ⟨by have := H.out.2.2.2; simpa using this, (Below.refl _ _).alloc (Nat.le_refl _) _, by simp⟩ ?_
    rintro W ⟨hAt, hbW, hsW⟩
    refine (mnamed_any W base p W.heap.size 1 1 F 2 mk s _ _ (H.out.1.fresh hbW) H.out.2.1.fine hAt (Nat.le_refl _) rfl (by decide)).mono ?_
    rintro e w1 ⟨rfl, hb1⟩
    have hs1 := hb1.size
    have hb : Below w.heap.size w w1 := hbW.trans (hb1.mono (by omega))
    have HD := Lib.hid (And.intro hb (H.out.1.fresh hb)); clear hAt hbW hb1 hb
    by_cases hn0 : namedE s [a] = 0
    · rw [hn0]
      obtain ⟨t, rfl, htl, -⟩ := namedE_zero hn0 a (by simp)
      obtain ⟨A, c, l, m1, m2, m3, m4, m5⟩ := HD.out.2
      have hll : l.length = s.length := by rw [← m5, its_length]
      obtain ⟨L, hL⟩ : ∃ L, l.length = L := ⟨_, rfl⟩
      have hsL : s.length = L := by omega
      obtain ⟨x, hx⟩ : ∃ x, l[t]? = some x := ⟨_, List.getElem?_eq_getElem (by omega)⟩
      obtain ⟨g, rfl, hg1, hg2, q0, q1, q2⟩ := m2.cells hx
      have hsx : s[t]? = some x.it := by rw [← m5]; exact its_get hx
      have hhb : heldB s (t : Int) = x.held := by unfold heldB; rw [Int.toNat_natCast, hsx]; rfl
      obtain ⟨xb, hxb⟩ : ∃ b, x.held = b := ⟨_, rfl⟩
      rw [hxb] at q2 hhb
      have p2 := m1.cell 2 (v := .slice (some ⟨g, 0, none⟩) l.length c) rfl
      have p0 := m1.cell 0 (v := .int .i64 2) rfl
      rw [hL] at p2
      have t0 : (0 : Int) ≤ (t : Int) := by omega
      have t1 : (t : Int) < (L : Int) := by omega
      have HX := Lib.hid (And.intro (show MkrL w1 base F p 2 mk (some ⟨g, 0, none⟩) c s l from ⟨m1, m2, m3, m4, m5⟩) (And.intro htl (And.intro hhb (And.intro hn0 (And.intro hsL H.out.2.1.small))))); clear m1 m2 m3 m4 m5 hll hx hsx hhb hxb hn0 hL hsL htl q0 q1
      obtain ⟨f1, f2, ⟨ov, f3⟩, f4, f5⟩ := hold_fin (t := t) (b := true) HX.out.1 HX.out.2.1
      have HQ := Lib.hid (And.intro f1 ((Touch.ofBelow HD.out.1).setCell (p := ⟨g, t * 3 + 2, none⟩) f2 (.bool true))); clear f1 f2 f5 f3
      go_wp2_with fail
      rw [← HP.out]
      exact HoldPost.yes (holdE_ok HX.out.2.2.2.1 (by simp)) (by unfold holdI; simp) rfl HQ.out.1 HQ.out.2
    · have d1 : (namedE s [a] != 0) = true := by simpa using hn0
      obtain ⟨er, her⟩ : ∃ er, namedE s [a] = er := ⟨_, rfl⟩
      rw [her] at d1 ⊢
      have HER := Lib.hid (And.intro her hn0); clear her hn0
      go_wp2_with fail
      rw [← HP.out]
      exact HoldPost.no ((holdE_named HER.out.2).trans HER.out.1) (by rw [← HER.out.1]; exact HER.out.2) rfl HD.out.2 (Touch.ofBelow HD.out.1)

end Go.Proofs.Ytpkccpegdpodoaa

/- mark: Do. -/
namespace Go.Proofs.Ytpkccpegdpodoaa
open Go.RowKit

attribute [local go_sem ↓] Go.wp_at_zero Go.wp_at_succ

/-- what a deed leaves -/
def DoPost (base p : Nat) (F : Nat → Prop) (kind : Int) (w : World) (r : Int × Int × Bool × List It) (e : Ending) (w' : World) : Prop :=
  e = .returned (.tuple #[.int .i64 r.1, .int .i64 r.2.1]) ∧ Mkr w' base (Up F w w') p kind r.2.2.1 r.2.2.2 ∧ Touch F w w'
theorem DoPost.of {base p : Nat} {F : Nat → Prop} {kind : Int} {w w' : World} {r : Int × Int × Bool × List It} {e : Ending} {m n : Int} {mk' : Bool} {s' : List It} (hr : r = (m, n, mk', s')) (he : e = .returned (.tuple #[.int .i64 m, .int .i64 n])) (hm : Mkr w' base (Up F w w') p kind mk' s') (hT : Touch F w w') : DoPost base p F kind w r e w' := by
  subst hr; exact ⟨he, hm, hT⟩
theorem DoPost.same {base p : Nat} {F : Nat → Prop} {kind : Int} {w w' : World} {r : Int × Int × Bool × List It} {e : Ending} {m n : Int} {mk' : Bool} {s' : List It} (hr : r = (m, n, mk', s')) (he : e = .returned (.tuple #[.int .i64 m, .int .i64 n])) (hm : Mkr w' base F p kind mk' s') (hT : Touch F w w') : DoPost base p F kind w r e w' :=
  DoPost.of hr he (hm.mono fun g hg => .inl hg) hT

theorem Up.from {F : Nat → Prop} {w w1 w' : World} (h : w.heap.size ≤ w1.heap.size) {g : Nat} (hg : Up F w1 w' g) : Up F w w' g := hg.elim .inl fun h1 => .inr ⟨by omega, h1.2⟩

set_option maxHeartbeats 1600000 in
set_option maxRecDepth 100000 in
theorem mdo_any (w : World) (base p : Nat) (F : Nat → Prop) (kind dd a b n : Int) (mk : Bool) (s : List It) (h : Mkr w base F p kind mk s) (hi : MInv kind mk s) (hk : kind = 1 ∨ kind = 2) (hF : ∀ g, F g → g < w.heap.size) (hd : I64 a ∧ I64 b ∧ I64 n) :
    Calls Try.prog 52 #[.pointer (some ⟨p, 0, none⟩), .agg #[.int .i64 dd, .int .i64 a, .int .i64 b, .int .i64 n]] w (DoPost base p F kind w (marksI kind mk s ⟨dd, a, b, n⟩)) := by
  obtain ⟨P, hP⟩ : ∃ P, DoPost base p F kind w (marksI kind mk s ⟨dd, a, b, n⟩) = P := ⟨_, rfl⟩
  have HP := Lib.hid hP
  rw [hP]; clear hP
  obtain ⟨W, hW⟩ : ∃ W, W = w.alloc (.cells #[.int .i64 dd, .int .i64 a, .int .i64 b, .int .i64 n] 97) := ⟨_, rfl⟩
  have hbW : Below w.heap.size w W := by rw [hW]; exact (Below.refl _ _).alloc (Nat.le_refl _) _
  have hsW : w.heap.size < W.heap.size := by rw [hW]; simp
  have hFW : ∀ g, F g → g < W.heap.size := fun g hg => by have := hF g hg; omega
  have hs1 := hi.small
  have H := Lib.hid (And.intro (h.fresh hbW) (And.intro hi (And.intro hk (And.intro hFW (And.intro hd (And.intro hbW hW)))))); clear h hi hk hF hFW hd hbW hW
  by_cases h1 : dd = 1
  · subst h1
    have hr : marksI kind mk s ⟨1, a, b, n⟩ = if newE s n ≠ 0 then (0, newE s n, mk, s) else ((s.length : Int), 0, mk, s ++ [newI (if mk = true then 2 else 0) n]) := if_pos rfl
    by_cases he : newE s n = 0
    · rw [if_neg (by simpa using he)] at hr
      have HR := Lib.hid (And.intro hr he); clear hr he
      go_enter Try.func52, Try.ntmps52
      go_wp2_with fail
      refine calls_world (fun V => W = V) H.out.2.2.2.2.2.2 ?_
      rintro V rfl
      refine (make_yes W base p F kind n mk s H.out.1 H.out.2.2.2.1 HR.out.2).mono ?_
      rintro e w1 ⟨rfl, hm1, hT1⟩
      have HZ := Lib.hid (And.intro (hm1.mono (fun g hg => Up.from (Nat.le_of_lt hsW) hg)) ((Touch.ofBelow H.out.2.2.2.2.2.1).trans hT1)); clear hm1 hT1
      go_wp2_with fail
      rw [← HP.out]
      exact DoPost.of HR.out.1 rfl HZ.out.1 HZ.out.2
    · rw [if_pos (by simpa using he)] at hr
      have HR := Lib.hid (And.intro hr he); clear hr he
      go_enter Try.func52, Try.ntmps52
      go_wp2_with fail
      refine calls_world (fun V => W = V) H.out.2.2.2.2.2.2 ?_
      rintro V rfl
      refine (make_no W base p F kind n mk s H.out.1 (by omega) HR.out.2).mono ?_
      rintro e w1 ⟨rfl, rfl⟩
      go_wp2_with fail
      rw [← HP.out]
      exact DoPost.same HR.out.1 rfl H.out.1 (Touch.ofBelow H.out.2.2.2.2.2.1)
  have d1 : (dd == 1) = false := by simpa using h1
  by_cases h2 : dd = 2
  · subst h2
    have hr : marksI kind mk s ⟨2, a, b, n⟩ = (0, setE s ⟨2, a, b, n⟩, mk, if setE s ⟨2, a, b, n⟩ = 0 then setI kind mk ⟨2, a, b, n⟩ s else s) := by
      unfold marksI
      rw [if_neg h1, if_pos rfl]
      split
      · rename_i hq; first | rfl | rw [if_neg hq]
      · rename_i hq; have hq' : setE s ⟨2, a, b, n⟩ = 0 := by simpa using hq
        rw [hq', if_pos rfl]
    have HR := Lib.hid hr; clear hr d1 h1
    go_enter Try.func52, Try.ntmps52
    go_wp2_with fail
    refine calls_world (fun V => W = V) H.out.2.2.2.2.2.2 ?_
    rintro V rfl
    refine (set_any W base p F kind 2 a b n mk s H.out.1 H.out.2.1 H.out.2.2.1 H.out.2.2.2.1 H.out.2.2.2.2.1).mono ?_
    rintro e w1 ⟨rfl, hm1, hT1⟩
    have HZ := Lib.hid (And.intro hm1 ((Touch.ofBelow H.out.2.2.2.2.2.1).trans hT1)); clear hm1 hT1
    go_wp2_with fail
    rw [← HP.out]
    exact DoPost.same HR.out rfl HZ.out.1 HZ.out.2
  have d2 : (dd == 2) = false := by simpa using h2
  by_cases h4 : dd = 4
  · subst h4
    have hr : marksI kind mk s ⟨4, a, b, n⟩ = (0, holdE s ⟨4, a, b, n⟩, mk, if holdE s ⟨4, a, b, n⟩ = 0 then holdI kind mk ⟨4, a, b, n⟩ s else s) := by
      unfold marksI
      rw [if_neg h1, if_neg h2, if_pos (by simp)]
      split
      · rename_i hq; first | rfl | rw [if_neg hq]
      · rename_i hq; have hq' : holdE s ⟨4, a, b, n⟩ = 0 := by simpa using hq
        rw [hq', if_pos rfl]
    have HR := Lib.hid hr; clear hr d1 h1 d2 h2
    go_enter Try.func52, Try.ntmps52
    go_wp2_with fail
    refine calls_world (fun V => W = V) H.out.2.2.2.2.2.2 ?_
    rintro V rfl
    refine (hold_any W base p F kind 4 a b n mk true s H.out.1 H.out.2.1 H.out.2.2.1 H.out.2.2.2.1 H.out.2.2.2.2.1.1 (by simp)).mono ?_
    rintro e w1 ⟨rfl, hm1, hT1⟩
    have HZ := Lib.hid (And.intro hm1 ((Touch.ofBelow H.out.2.2.2.2.2.1).trans hT1)); clear hm1 hT1
    go_wp2_with fail
    rw [← HP.out]
    exact DoPost.same HR.out rfl HZ.out.1 HZ.out.2
  have d4 : (dd == 4) = false := by simpa using h4
  by_cases h3 : dd = 3
  · subst h3
    have hr : marksI kind mk s ⟨3, a, b, n⟩ = (0, holdE s ⟨3, a, b, n⟩, mk, if holdE s ⟨3, a, b, n⟩ = 0 then holdI kind mk ⟨3, a, b, n⟩ s else s) := by
      unfold marksI
      rw [if_neg h1, if_neg h2, if_pos (by simp)]
      split
      · rename_i hq; first | rfl | rw [if_neg hq]
      · rename_i hq; have hq' : holdE s ⟨3, a, b, n⟩ = 0 := by simpa using hq
        rw [hq', if_pos rfl]
    have HR := Lib.hid hr; clear hr d1 h1 d2 h2 d4 h4
    go_enter Try.func52, Try.ntmps52
    go_wp2_with fail
    refine calls_world (fun V => W = V) H.out.2.2.2.2.2.2 ?_
    rintro V rfl
    refine (hold_any W base p F kind 3 a b n mk false s H.out.1 H.out.2.1 H.out.2.2.1 H.out.2.2.2.1 H.out.2.2.2.2.1.1 (by simp)).mono ?_
    rintro e w1 ⟨rfl, hm1, hT1⟩
    have HZ := Lib.hid (And.intro hm1 ((Touch.ofBelow H.out.2.2.2.2.2.1).trans hT1)); clear hm1 hT1
    go_wp2_with fail
    rw [← HP.out]
    exact DoPost.same HR.out rfl HZ.out.1 HZ.out.2
  have d3 : (dd == 3) = false := by simpa using h3
  have h34 : ¬ (dd = 4 ∨ dd = 3) := by rintro (h | h) <;> first | exact h4 h | exact h3 h
  by_cases h6 : dd = 6
  · subst h6
    have hr : marksI kind mk s ⟨6, a, b, n⟩ = if mk = true then (0, 8, mk, s) else ((heldN s : Int), 0, true, beginI s) := by
      unfold marksI
      rw [if_neg h1, if_neg h2, if_neg h34, if_pos rfl]
    cases mk with
    | true =>
      rw [if_pos rfl] at hr
      have HR := Lib.hid hr; clear hr d1 h1 d2 h2 d4 h4 d3 h3 h34
      go_enter Try.func52, Try.ntmps52
      go_wp2_with fail
      refine calls_world (fun V => W = V) H.out.2.2.2.2.2.2 ?_
      rintro V rfl
      refine (begin_no W base p F kind s H.out.1).mono ?_
      rintro e w1 ⟨rfl, rfl⟩
      go_wp2_with fail
      rw [← HP.out]
      exact DoPost.same HR.out rfl H.out.1 (Touch.ofBelow H.out.2.2.2.2.2.1)
    | false =>
      rw [if_neg (by simp)] at hr
      have HR := Lib.hid hr; clear hr d1 h1 d2 h2 d4 h4 d3 h3 h34
      go_enter Try.func52, Try.ntmps52
      go_wp2_with fail
      refine calls_world (fun V => W = V) H.out.2.2.2.2.2.2 ?_
      rintro V rfl
      refine (begin_yes W base p F kind s H.out.1 hs1).mono ?_
      rintro e w1 ⟨rfl, hm1, hT1⟩
      have HZ := Lib.hid (And.intro hm1 ((Touch.ofBelow H.out.2.2.2.2.2.1).trans hT1)); clear hm1 hT1
      go_wp2_with fail
      rw [← HP.out]
      exact DoPost.same HR.out rfl HZ.out.1 HZ.out.2
  have d6 : (dd == 6) = false := by simpa using h6
  by_cases h5 : dd = 5
  · subst h5
    have hr : marksI kind mk s ⟨5, a, b, n⟩ = if mk = false then (0, 8, mk, s) else if n < 0 then (0, 1, mk, s) else (((stepsI n.toNat s).2 : Int), 0, mk, (stepsI n.toNat s).1) := by
      unfold marksI
      rw [if_neg h1, if_neg h2, if_neg h34, if_neg h6, if_pos rfl]
    cases mk with
    | false =>
      rw [if_pos rfl] at hr
      have HR := Lib.hid hr; clear hr d1 h1 d2 h2 d4 h4 d3 h3 h34 d6 h6
      go_enter Try.func52, Try.ntmps52
      go_wp2_with fail
      refine calls_world (fun V => W = V) H.out.2.2.2.2.2.2 ?_
      rintro V rfl
      refine (steps_no W base p F kind n s H.out.1).mono ?_
      rintro e w1 ⟨rfl, rfl⟩
      go_wp2_with fail
      rw [← HP.out]
      exact DoPost.same HR.out rfl H.out.1 (Touch.ofBelow H.out.2.2.2.2.2.1)
    | true =>
      rw [if_neg (by simp)] at hr
      by_cases hn : n < 0
      · rw [if_pos hn] at hr
        have HR := Lib.hid hr; clear hr d1 h1 d2 h2 d4 h4 d3 h3 h34 d6 h6
        go_enter Try.func52, Try.ntmps52
        go_wp2_with fail
        refine calls_world (fun V => W = V) H.out.2.2.2.2.2.2 ?_
        rintro V rfl
        refine (steps_neg W base p F kind n s H.out.1 hn).mono ?_
        rintro e w1 ⟨rfl, rfl⟩
        go_wp2_with fail
        rw [← HP.out]
        exact DoPost.same HR.out rfl H.out.1 (Touch.ofBelow H.out.2.2.2.2.2.1)
      · rw [if_neg hn] at hr
        obtain ⟨j, rfl⟩ : ∃ j : Nat, n = (j : Int) := ⟨n.toNat, by omega⟩
        rw [Int.toNat_natCast] at hr
        have hj9 : j ≤ 9223372036854775807 := by have := H.out.2.2.2.2.1.2.2.2; omega
        have HR := Lib.hid hr; clear hr d1 h1 d2 h2 d4 h4 d3 h3 h34 d6 h6
        go_enter Try.func52, Try.ntmps52
        go_wp2_with fail
        refine calls_world (fun V => W = V) H.out.2.2.2.2.2.2 ?_
        rintro V rfl
        refine (steps_yes W base p j F kind s H.out.1 H.out.2.1 hj9).mono ?_
        rintro e w1 ⟨rfl, hm1, hT1⟩
        have HZ := Lib.hid (And.intro hm1 ((Touch.ofBelow H.out.2.2.2.2.2.1).trans hT1)); clear hm1 hT1
        go_wp2_with fail
        rw [← HP.out]
        exact DoPost.same HR.out rfl HZ.out.1 HZ.out.2
  have d5 : (dd == 5) = false := by simpa using h5
  by_cases h7 : dd = 7
  · subst h7
    have hr : marksI kind mk s ⟨7, a, b, n⟩ = if mk = false then (0, 8, mk, s) else ((endN s : Int), 0, false, endI s) := by
      unfold marksI
      rw [if_neg h1, if_neg h2, if_neg h34, if_neg h6, if_neg h5, if_pos rfl]
    cases mk with
    | false =>
      rw [if_pos rfl] at hr
      have HR := Lib.hid hr; clear hr d1 h1 d2 h2 d4 h4 d3 h3 h34 d6 h6 d5 h5
      go_enter Try.func52, Try.ntmps52
      go_wp2_with fail
      refine calls_world (fun V => W = V) H.out.2.2.2.2.2.2 ?_
      rintro V rfl
      refine (end_no W base p F kind s H.out.1).mono ?_
      rintro e w1 ⟨rfl, rfl⟩
      go_wp2_with fail
      rw [← HP.out]
      exact DoPost.same HR.out rfl H.out.1 (Touch.ofBelow H.out.2.2.2.2.2.1)
    | true =>
      rw [if_neg (by simp)] at hr
      have HR := Lib.hid hr; clear hr d1 h1 d2 h2 d4 h4 d3 h3 h34 d6 h6 d5 h5
      go_enter Try.func52, Try.ntmps52
      go_wp2_with fail
      refine calls_world (fun V => W = V) H.out.2.2.2.2.2.2 ?_
      rintro V rfl
      refine (end_yes W base p F kind s H.out.1 H.out.2.1).mono ?_
      rintro e w1 ⟨rfl, hm1, hT1⟩
      have HZ := Lib.hid (And.intro hm1 ((Touch.ofBelow H.out.2.2.2.2.2.1).trans hT1)); clear hm1 hT1
      go_wp2_with fail
      rw [← HP.out]
      exact DoPost.same HR.out rfl HZ.out.1 HZ.out.2
  have d7 : (dd == 7) = false := by simpa using h7
  have hr : marksI kind mk s ⟨dd, a, b, n⟩ = (0, 7, mk, s) := by
    unfold marksI
    rw [if_neg h1, if_neg h2, if_neg h34, if_neg h6, if_neg h5, if_neg h7]
  have HR := Lib.hid hr; clear hr h1 h2 h4 h3 h34 h6 h5 h7
  go_enter Try.func52, Try.ntmps52
  go_wp2_with fail
  rw [← HP.out]
  rw [← H.out.2.2.2.2.2.2]
  exact DoPost.same HR.out rfl H.out.1 (Touch.ofBelow H.out.2.2.2.2.2.1)

end Go.Proofs.Ytpkccpegdpodoaa

/- R.Model: what is wrong with a setting, with a holding. -/
namespace Go.Proofs.Ytpkccpegdpodoaa
open Go.RowKit

attribute [local go_sem ↓] Go.wp_at_zero Go.wp_at_succ

set_option maxHeartbeats 1600000 in
set_option maxRecDepth 100000 in
theorem setFault_any (w : World) (base p : Nat) (F : Nat → Prop) (nu kind dd a b n : Int) (mk : Bool) (s : List It) (h : Mdl w base F p nu kind mk s) (hi : Fine s) (hd : I64 a ∧ I64 b ∧ I64 n) :
    Calls Try.prog 130 #[.pointer (some ⟨p, 0, none⟩), .agg #[.int .i64 dd, .int .i64 a, .int .i64 b, .int .i64 n]] w fun e w' => e = .returned (.int .i64 (setE s ⟨dd, a, b, n⟩)) ∧ Below w.heap.size w w' := by
  obtain ⟨i0, hi0, hz0, hz1, hz2⟩ := info_parts infoInt
  have hp : p < w.heap.size := by obtain ⟨A, c, l, h1, -⟩ := h; exact h1.lt
  have H := Lib.hid (And.intro h (And.intro hi hd)); clear h hi hd
  have hls : (b != -1) = false ∧ setL ⟨dd, a, b, n⟩ = [a] ∨ (b != -1) = true ∧ setL ⟨dd, a, b, n⟩ = [a] ++ [b] := by
    by_cases hb : b = -1
    · exact .inl ⟨by simpa using hb, if_pos hb⟩
    · exact .inr ⟨by simpa using hb, if_neg hb⟩
  have hat1 : ∀ V : World, At (V.alloc (.cells #[.int .i64 a] 3)) (V.heap.size + 1) (some ⟨V.heap.size, 0, none⟩) [a] := fun V => At.built V _ _ [a] rfl (by
    intro z hz; simp at hz; subst hz; exact H.out.2.2.1)
  have hat2 : ∀ V : World, At (V.alloc (.cells #[.int .i64 b] 3)) (V.heap.size + 1) (some ⟨V.heap.size, 0, none⟩) [b] := fun V => At.built V _ _ [b] rfl (by
    intro z hz; simp at hz; subst hz; exact H.out.2.2.2.1)
  have hown1 : ∀ V : World, w.heap.size ≤ V.heap.size → Own (V.alloc (.cells #[.int .i64 a] 3)) w.heap.size 3 (some ⟨V.heap.size, 0, none⟩) 1 [a] := fun V hV =>
    ⟨flat_length _, .inr ⟨V.heap.size, 1, #[.int .i64 a], rfl, hV, heap_alloc_new V _, Nat.le_refl _, by simp [maxLen], rfl, rfl⟩⟩
  have HA := Lib.hid (And.intro hat1 (And.intro hat2 hown1)); clear hat1 hat2 hown1
  rcases hls with ⟨d0, hl⟩ | ⟨d0, hl⟩
  all_goals
    have HL := Lib.hid hl; clear hl
    go_enter Try.func130, Try.ntmps130
    go_upto_region 4 with (at_builtin; go_must (refine wpList_app (α := Int) (n := 1) (m := 1) (B := (w.heap.size + 1 + 1) + 1) (r := [b]) rfl (.tmp 13) (.tmp 16) _ rfl w.heap.size 3 i0 _ 8 Try.underlying47 hi0 hz0 hz1 hz2 rfl (by decide) int_one (by rfl) (l := [a]) rfl (by have := (HA.out.2.2 (w.alloc (.cells #[.int .i64 dd, .int .i64 a, .int .i64 b, .int .i64 n] 97)) (by simp)).alloc (.cells #[.int .i64 b] 3); simpa using this) (by rfl) (by have := HA.out.2.1 ((w.alloc (.cells #[.int .i64 dd, .int .i64 a, .int .i64 b, .int .i64 n] 97)).alloc (.cells #[.int .i64 a] 3)); simpa using this) rfl (by omega) (by simp only [maxLen]; omega) (by simp; omega) ?_); intro A3 c3 w3 ho3 hgr3 hat3)
    first
      | (refine wp_world (fun W => Blk W w.heap.size 97 #[.int .i64 dd, .int .i64 a, .int .i64 b, .int .i64 n] ∧ At W W.heap.size A3 (setL ⟨dd, a, b, n⟩) ∧ Below w.heap.size w W ∧ w.heap.size < W.heap.size) ⟨?_, ?_, ?_, ?_⟩ ?_)
      | (refine wp_world (fun W => Blk W w.heap.size 97 #[.int .i64 dd, .int .i64 a, .int .i64 b, .int .i64 n] ∧ At W W.heap.size (some ⟨w.heap.size + 1, 0, none⟩) (setL ⟨dd, a, b, n⟩) ∧ Below w.heap.size w W ∧ w.heap.size < W.heap.size) ⟨?_, ?_, ?_, ?_⟩ ?_)
    · first
        | exact (Blk.new w _ _).alloc _
        | exact (((Blk.new w _ _).alloc _).alloc _).grown hgr3 (by simp [rowOf])
    · first
        | (rw [HL.out]; have := HA.out.1 (w.alloc (.cells #[.int .i64 dd, .int .i64 a, .int .i64 b, .int .i64 n] 97)); simpa using this)
        | (rw [HL.out]; exact ho3.at_ (by intro z hz; simp at hz; rcases hz with rfl | rfl; exact H.out.2.2.1; exact H.out.2.2.2.1))
    · first
        | exact ((Below.refl _ _).alloc (Nat.le_refl _) _).alloc (by simp) _
        | exact ((((Below.refl _ _).alloc (Nat.le_refl _) _).alloc (by simp) _).alloc (by simp; omega) _).grown hgr3 (by simp; omega) (by simp [rowOf])
    · first
        | (simp; omega)
        | (have := hgr3.size; simp only [World.size_alloc] at this; omega)
    rintro W ⟨hD, hAt, hbW, hsW⟩
    try clear ho3 hgr3 hat3
    go_wp2_with fail
    refine (rnamed_any W base p W.heap.size _ _ F nu kind mk s _ _ (H.out.1.fresh hbW) H.out.2.1 hAt (Nat.le_refl _) (by rw [HL.out]; rfl) (by decide)).mono ?_
    rintro e w1 ⟨rfl, hb1⟩
    have hs1 := hb1.size
    have hb : Below w.heap.size w w1 := hbW.trans (hb1.mono (by omega))
    have HD := Lib.hid (And.intro (hD.fresh hb1) (And.intro hb (H.out.1.fresh hb))); clear hD hAt hbW hb1 hb
    have e3 := HD.out.1.cell 3 (v := .int .i64 n) rfl
    by_cases hn0 : namedE s (setL ⟨dd, a, b, n⟩) = 0
    · rw [hn0]
      obtain ⟨t, rfl, htl, -⟩ := namedE_zero hn0 a (by rw [HL.out]; simp)
      obtain ⟨A, c, l, m1, m2, m3, m4, m5⟩ := HD.out.2.2
      have hll : l.length = s.length := by rw [← m5, its_length]
      obtain ⟨L, hL⟩ : ∃ L, l.length = L := ⟨_, rfl⟩
      rw [hL] at m1
      obtain ⟨x, hx⟩ : ∃ x, l[t]? = some x := ⟨_, List.getElem?_eq_getElem (by omega)⟩
      obtain ⟨g, rfl, hg1, hg2, q0, q1, q2⟩ := m2.cells hx
      have hsx : s[t]? = some x.it := by rw [← m5]; exact its_get hx
      have hat : hasAt s (t : Int) = x.has := by unfold hasAt; rw [Int.toNat_natCast, hsx]; rfl
      obtain ⟨xh, hxh⟩ : ∃ h, x.has = h := ⟨_, rfl⟩
      obtain ⟨xn, hxn⟩ : ∃ n, xh.length = n := ⟨_, rfl⟩
      rw [hxh, hxn] at q0
      rw [hxh] at hat
      have p0 := m1.cell 0 (v := .slice (some ⟨g, 0, none⟩) L c) rfl
      have e1 := HD.out.1.cell 1 (v := .int .i64 (t : Int)) rfl
      have t0 : (0 : Int) ≤ (t : Int) := by omega
      have t1 : (t : Int) < (L : Int) := by omega
      have HX := Lib.hid (And.intro hn0 (And.intro hat hxn)); clear m1 m2 m3 m5 hll hx hsx hxn hat hn0 hL htl hxh q1 q2
      by_cases hr0 : n < 0
      · have HR := Lib.hid (setE_range (d := ⟨dd, (t : Int), b, n⟩) HX.out.1 (.inl hr0))
        have dr : decide (n < 0) = true := by simpa using hr0
        go_wp2_with fail
        go_quiet (fail)
        go_wp2_with fail
        go_ret
        exact ⟨by rw [HR.out]; rfl, below_drewN HD.out.2.1 _⟩
      · by_cases hr1 : (xn : Int) ≤ n
        · have HR := Lib.hid (setE_range (d := ⟨dd, (t : Int), b, n⟩) HX.out.1 (.inr (by rw [HX.out.2.1, HX.out.2.2]; exact hr1)))
          have dr0 : decide (n < 0) = false := by simpa using hr0
          have dr1 : decide ((xn : Int) ≤ n) = true := by simpa using hr1
          go_wp2_with fail
          go_quiet (fail)
          go_wp2_with fail
          go_ret
          exact ⟨by rw [HR.out]; rfl, below_drewN HD.out.2.1 _⟩
        · have HR := Lib.hid (setE_ok (d := ⟨dd, (t : Int), b, n⟩) HX.out.1 (by rw [HX.out.2.1, HX.out.2.2]; simp only; omega))
          have dr0 : decide (n < 0) = false := by simpa using hr0
          have dr1 : decide ((xn : Int) ≤ n) = false := by simpa using hr1
          go_wp2_with fail
          go_quiet (fail)
          go_wp2_with fail
          go_ret
          exact ⟨by rw [HR.out]; rfl, below_drewN HD.out.2.1 _⟩
    · have d1 : (namedE s (setL ⟨dd, a, b, n⟩) == 0) = false := by simpa using hn0
      obtain ⟨er, her⟩ : ∃ er, namedE s (setL ⟨dd, a, b, n⟩) = er := ⟨_, rfl⟩
      rw [her] at d1 ⊢
      have HER := Lib.hid (And.intro her hn0); clear her hn0
      go_wp2_with fail
      go_quiet (fail)
      go_wp2_with fail
      go_ret
      exact ⟨by rw [setE_named HER.out.2, HER.out.1]; rfl, below_drewN HD.out.2.1 _⟩

end Go.Proofs.Ytpkccpegdpodoaa

/- R.Model: what is wrong with a holding. -/
namespace Go.Proofs.Ytpkccpegdpodoaa
open Go.RowKit

attribute [local go_sem ↓] Go.wp_at_zero Go.wp_at_succ

set_option maxHeartbeats 1600000 in
set_option maxRecDepth 100000 in
theorem holdFault_any (w : World) (base p : Nat) (F : Nat → Prop) (nu kind dd a b n : Int) (mk : Bool) (s : List It) (h : Mdl w base F p nu kind mk s) (hi : Fine s) (hd : I64 a) :
    Calls Try.prog 132 #[.pointer (some ⟨p, 0, none⟩), .agg #[.int .i64 dd, .int .i64 a, .int .i64 b, .int .i64 n]] w fun e w' => e = .returned (.int .i64 (holdE s ⟨dd, a, b, n⟩)) ∧ Below w.heap.size w w' := by
  have hat : ∀ V : World, At (V.alloc (.cells #[.int .i64 a] 3)) (V.heap.size + 1) (some ⟨V.heap.size, 0, none⟩) [a] := fun V => At.built V _ _ [a] rfl (by
    intro z hz; simp at hz; subst hz; exact hd)
  have H := Lib.hid (And.intro h (And.intro hi hat)); clear h hi hd hat
  go_enter Try.func132, Try.ntmps132
  go_wp2_with fail
  refine calls_world (fun W => Blk W w.heap.size 97 #[.int .i64 dd, .int .i64 a, .int .i64 b, .int .i64 n] ∧ At W W.heap.size (some ⟨w.heap.size + 1, 0, none⟩) [a] ∧ Below w.heap.size w W ∧ w.heap.size < W.heap.size) ⟨(Blk.new w _ _).alloc _, ?_, ((Below.refl _ _).alloc (Nat.le_refl _) _).alloc (by simp) _, by simp; omega⟩ ?_
  · have := H.out.2.2 (w.alloc (.cells #[.int .i64 dd, .int .i64 a, .int .i64 b, .int .i64 n] 97))
    simpa using this
  rintro W ⟨hD, hAt, hbW, hsW⟩
  refine (rnamed_any W base p W.heap.size _ _ F nu kind mk s _ _ (H.out.1.fresh hbW) H.out.2.1 hAt (Nat.le_refl _) rfl (by simp)).mono ?_
  rintro e w1 ⟨rfl, hb1⟩
  have hs1 := hb1.size
  have hb : Below w.heap.size w w1 := hbW.trans (hb1.mono (by omega))
  have HD := Lib.hid (And.intro (hD.fresh hb1) (And.intro hb (H.out.1.fresh hb))); clear hD hAt hbW hb1 hb
  have e0 := HD.out.1.cell 0 (v := .int .i64 dd) rfl
  by_cases hn0 : namedE s [a] = 0
  · rw [hn0]
    obtain ⟨t, rfl, htl, -⟩ := namedE_zero hn0 a (by simp)
    obtain ⟨A, c, l, m1, m2, m3, m4, m5⟩ := HD.out.2.2
    have hll : l.length = s.length := by rw [← m5, its_length]
    obtain ⟨L, hL⟩ : ∃ L, l.length = L := ⟨_, rfl⟩
    rw [hL] at m1
    obtain ⟨x, hx⟩ : ∃ x, l[t]? = some x := ⟨_, List.getElem?_eq_getElem (by omega)⟩
    obtain ⟨g, rfl, hg1, hg2, q0, q1, q2⟩ := m2.cells hx
    have hsx : s[t]? = some x.it := by rw [← m5]; exact its_get hx
    have hhb : heldB s (t : Int) = x.held := by unfold heldB; rw [Int.toNat_natCast, hsx]; rfl
    obtain ⟨xb, hxb⟩ : ∃ b, x.held = b := ⟨_, rfl⟩
    rw [hxb] at q2 hhb
    have p0 := m1.cell 0 (v := .slice (some ⟨g, 0, none⟩) L c) rfl
    have e1 := HD.out.1.cell 1 (v := .int .i64 (t : Int)) rfl
    have t0 : (0 : Int) ≤ (t : Int) := by omega
    have t1 : (t : Int) < (L : Int) := by omega
    have HX := Lib.hid (And.intro hn0 hhb); clear m1 m2 m3 m5 hll hx hsx hhb hn0 hL htl hxb q0 q1
    by_cases h3 : dd = 3
    · subst h3
      cases xb with
      | false =>
        have HR := Lib.hid (holdE_state (d := ⟨3, (t : Int), b, n⟩) HX.out.1 ⟨rfl, HX.out.2⟩)
        go_wp2_with fail
        go_quiet (fail)
        go_wp2_with fail
        go_ret
        exact ⟨by rw [HR.out]; rfl, below_drewN HD.out.2.1 _⟩
      | true =>
        have HR := Lib.hid (holdE_ok (d := ⟨3, (t : Int), b, n⟩) HX.out.1 (by rw [HX.out.2]; simp))
        go_wp2_with fail
        go_quiet (fail)
        go_wp2_with fail
        go_ret
        exact ⟨by rw [HR.out]; rfl, below_drewN HD.out.2.1 _⟩
    · have HR := Lib.hid (holdE_ok (d := ⟨dd, (t : Int), b, n⟩) HX.out.1 (fun h => h3 h.1))
      have d3 : (dd == 3) = false := by simpa using h3
      clear h3
      go_wp2_with fail
      go_quiet (fail)
      go_wp2_with fail
      go_ret
      exact ⟨by rw [HR.out]; rfl, below_drewN HD.out.2.1 _⟩
  · have d1 : (namedE s [a] == 0) = false := by simpa using hn0
    obtain ⟨er, her⟩ : ∃ er, namedE s [a] = er := ⟨_, rfl⟩
    rw [her] at d1 ⊢
    have HER := Lib.hid (And.intro her hn0); clear her hn0
    go_wp2_with fail
    go_quiet (fail)
    go_wp2_with fail
    go_ret
    exact ⟨by rw [holdE_named HER.out.2, HER.out.1]; rfl, below_drewN HD.out.2.1 _⟩

end Go.Proofs.Ytpkccpegdpodoaa

/- Things that are gone: round by round. No program is named here. -/
namespace Go.Proofs.Ytpkccpegdpodoaa

def goneK (ks : List Int) (v : Int) (s : List It) : List It := s.mapIdx fun i x => if ks.contains (i : Int) = true then ⟨[], v, false⟩ else x
def clr (ls : List Int) (k : Int) : Int := if ls.contains k = true then -1 else k
def clrK (ls : List Int) (n : Nat) (s : List It) : List It := s.mapIdx fun j x => if j < n then clearL ls x else x
def clrH (ls : List Int) (i : Nat) (x : It) : It := { x with has := (x.has.take i).map (clr ls) ++ x.has.drop i }
def clrI (ls : List Int) (n i : Nat) (s : List It) : List It := (clrK ls n s).modify n (clrH ls i)

theorem goneK_nil (v : Int) (s : List It) : goneK [] v s = s := by
  apply List.ext_getElem?; intro i
  unfold goneK; rw [List.getElem?_mapIdx]
  cases s[i]? <;> simp
theorem goneK_length (ks : List Int) (v : Int) (s : List It) : (goneK ks v s).length = s.length := by simp [goneK]
theorem goneK_get (ks : List Int) (v : Int) (s : List It) (i : Nat) {x : It} (h : s[i]? = some x) : (goneK ks v s)[i]? = some (if ks.contains (i : Int) = true then ⟨[], v, false⟩ else x) := by
  unfold goneK; rw [List.getElem?_mapIdx, h]; rfl
theorem goneK_snoc (ks : List Int) (v : Int) (s : List It) (m : Nat) : goneK (ks ++ [(m : Int)]) v s = (goneK ks v s).modify m (fun _ => ⟨[], v, false⟩) := by
  apply List.ext_getElem?; intro i
  rw [get_modify]
  cases hs : s[i]? with
  | none =>
    have hi : s.length ≤ i := by rw [List.getElem?_eq_none_iff] at hs; exact hs
    rw [List.getElem?_eq_none (by rw [goneK_length]; exact hi), List.getElem?_eq_none (by rw [goneK_length]; exact hi)]
    simp
  | some x =>
    rw [goneK_get _ v s i hs, goneK_get _ v s i hs]
    by_cases e : m = i
    · subst e
      rw [if_pos rfl]; simp
    · rw [if_neg e]
      have : ((ks ++ [(m : Int)]).contains (i : Int)) = ks.contains (i : Int) := by
        rw [Bool.eq_iff_iff, List.contains_iff_mem, List.contains_iff_mem, List.mem_append]
        constructor
        · rintro (h | h)
          · exact h
          · simp only [List.mem_singleton] at h; omega
        · exact .inl
      rw [this]
theorem goneI_eq (ls : List Int) (v : Int) (s : List It) : goneI ls v s = (goneK ls v s).map (clearL ls) := rfl

theorem clrK_length (ls : List Int) (n : Nat) (s : List It) : (clrK ls n s).length = s.length := by simp [clrK]
theorem clrI_length (ls : List Int) (n i : Nat) (s : List It) : (clrI ls n i s).length = s.length := by unfold clrI; simp [clrK]
theorem clrK_get (ls : List Int) (n : Nat) (s : List It) (j : Nat) {x : It} (h : s[j]? = some x) : (clrK ls n s)[j]? = some (if j < n then clearL ls x else x) := by
  unfold clrK; rw [List.getElem?_mapIdx, h]; rfl
theorem clrK_zero (ls : List Int) (s : List It) : clrK ls 0 s = s := by
  apply List.ext_getElem?; intro i
  unfold clrK; rw [List.getElem?_mapIdx]
  cases s[i]? <;> simp
theorem clrK_all (ls : List Int) (s : List It) : clrK ls s.length s = s.map (clearL ls) := by
  apply List.ext_getElem?; intro i
  unfold clrK
  rw [List.getElem?_mapIdx, List.getElem?_map]
  cases hs : s[i]? with
  | none => rfl
  | some x => simp [(List.getElem?_eq_some_iff.1 hs).1]
theorem clrI_zero (ls : List Int) (n : Nat) (s : List It) : clrI ls n 0 s = clrK ls n s := by
  unfold clrI
  apply List.ext_getElem?; intro j
  rw [get_modify]
  split
  · cases (clrK ls n s)[j]? <;> simp [clrH]
  · rfl
theorem clrI_get (ls : List Int) (n i : Nat) (s : List It) {x : It} (h : s[n]? = some x) : (clrI ls n i s)[n]? = some (clrH ls i x) := by
  unfold clrI
  rw [get_modify, if_pos rfl, clrK_get ls n s n h, if_neg (by omega)]; rfl
theorem clrI_step (ls : List Int) (n i : Nat) (s : List It) {x : It} {k : Int} (h : s[n]? = some x) (hk : x.has[i]? = some k) : clrI ls n (i + 1) s = if ls.contains k = true then (clrI ls n i s).modify n (It.sethas i (-1)) else clrI ls n i s := by
  have hi : i < x.has.length := (List.getElem?_eq_some_iff.1 hk).1
  have hH : clrH ls (i + 1) x = if ls.contains k = true then It.sethas i (-1) (clrH ls i x) else clrH ls i x := by
    have hd : x.has.drop i = k :: x.has.drop (i + 1) := by
      rw [List.drop_eq_getElem_cons hi]
      rw [List.getElem?_eq_getElem hi] at hk; injection hk with hk; rw [hk]
    have ht : x.has.take (i + 1) = x.has.take i ++ [k] := by rw [List.take_add_one, hk]; rfl
    have hl : ((x.has.take i).map (clr ls)).length = i := by rw [List.length_map, List.length_take]; omega
    unfold clrH It.sethas
    by_cases hc : ls.contains k = true
    · rw [if_pos hc]
      simp only [ht, hd, List.map_append, List.map_cons, List.map_nil]
      rw [List.set_append_right _ _ (by omega), hl, Nat.sub_self, List.set_cons_zero]
      have : clr ls k = -1 := if_pos hc
      simp [this]
    · rw [if_neg hc]
      simp only [ht, hd, List.map_append, List.map_cons, List.map_nil]
      have : clr ls k = k := if_neg hc
      simp [this]
  apply List.ext_getElem?; intro j
  by_cases e : n = j
  · subst e
    rw [clrI_get ls n (i + 1) s h, hH]
    split
    · rw [get_modify, if_pos rfl, clrI_get ls n i s h]; rfl
    · rw [clrI_get ls n i s h]
  · have hne : ∀ q, (clrI ls n q s)[j]? = (clrK ls n s)[j]? := fun q => by unfold clrI; rw [get_modify, if_neg e]
    rw [hne]
    split
    · rw [get_modify, if_neg e, hne]
    · rw [hne]
theorem clrI_done (ls : List Int) (n : Nat) (s : List It) {x : It} (h : s[n]? = some x) : clrI ls n x.has.length s = clrK ls (n + 1) s := by
  apply List.ext_getElem?; intro j
  by_cases e : n = j
  · subst e
    rw [clrI_get ls n _ s h, clrK_get ls (n + 1) s n h, if_pos (by omega)]
    unfold clrH clearL
    rw [List.take_length, List.drop_length, List.append_nil]; rfl
  · unfold clrI
    rw [get_modify, if_neg e]
    cases hs : s[j]? with
    | none =>
      have hj : s.length ≤ j := by rw [List.getElem?_eq_none_iff] at hs; exact hs
      rw [List.getElem?_eq_none (by rw [clrK_length]; exact hj), List.getElem?_eq_none (by rw [clrK_length]; exact hj)]
    | some y =>
      rw [clrK_get ls n s j hs, clrK_get ls (n + 1) s j hs]
      have e1 : (j < n + 1) ↔ (j < n) := by omega
      simp only [e1]

/-- those that stand so made to stand otherwise, by their numbers -/
def setAll (ks : List Int) (v : Int) (s : List It) : List It := ks.foldl (fun s k => s.modify k.toNat (It.setst v)) s
theorem setAll_snoc (l : List Int) (k : Nat) (x : Int) (v : Int) (s : List It) (h : l[k]? = some x) : setAll (l.take (k + 1)) v s = (setAll (l.take k) v s).modify x.toNat (It.setst v) := by
  unfold setAll
  rw [List.take_add_one, h]; simp
theorem setAll_length (ks : List Int) (v : Int) (s : List It) : (setAll ks v s).length = s.length := by
  unfold setAll
  induction ks generalizing s with
  | nil => rfl
  | cons a l ih => rw [List.foldl_cons, ih]; simp
theorem setAll_get (ks : List Int) (v : Int) : ∀ (s : List It) (i : Nat) (x : It), s[i]? = some x → (∀ k ∈ ks, 0 ≤ k) → (setAll ks v s)[i]? = some (if ks.contains (i : Int) = true then x.setst v else x) := by
  unfold setAll
  induction ks with
  | nil => intro s i x h _; simpa using h
  | cons a l ih =>
    intro s i x h hk
    rw [List.foldl_cons]
    have ha := hk a (by simp)
    by_cases e : a.toNat = i
    · have h2 : (s.modify a.toNat (It.setst v))[i]? = some (x.setst v) := by rw [get_modify, if_pos e, h]; rfl
      rw [ih _ i _ h2 (fun k hk' => hk k (by simp [hk']))]
      have ha2 : a = (i : Int) := by omega
      have hc : (a :: l).contains (i : Int) = true := by rw [List.contains_iff_mem, ha2]; simp
      rw [if_pos hc]
      split <;> rfl
    · have h2 : (s.modify a.toNat (It.setst v))[i]? = some x := by rw [get_modify, if_neg e]; exact h
      rw [ih _ i _ h2 (fun k hk' => hk k (by simp [hk']))]
      have hc : (a :: l).contains (i : Int) = l.contains (i : Int) := by
        rw [Bool.eq_iff_iff, List.contains_iff_mem, List.contains_iff_mem, List.mem_cons]
        constructor
        · rintro (h | h)
          · omega
          · exact h
        · exact .inr
      rw [hc]
theorem setAll_whiten (s : List It) : setAll (are s 2) 0 s = s.map whiten := by
  apply List.ext_getElem?; intro i
  rw [List.getElem?_map]
  cases hs : s[i]? with
  | none =>
    have hi : s.length ≤ i := by rw [List.getElem?_eq_none_iff] at hs; exact hs
    rw [List.getElem?_eq_none (by rw [setAll_length]; exact hi)]; rfl
  | some x =>
    rw [setAll_get _ 0 s i x hs (fun k hk => by
      unfold are at hk
      obtain ⟨n, rfl, -⟩ := (mem_rising _ _).1 hk
      omega)]
    simp only [Option.map_some]
    congr 1
    unfold whiten
    by_cases h2 : x.st = 2
    · rw [if_pos ((are_contains s 2 i).2 (by rw [stAt_get hs, h2])), if_pos h2]
    · rw [if_neg (by rw [are_contains, stAt_get hs]; intro e; injection e with e; exact h2 e), if_neg h2]

end Go.Proofs.Ytpkccpegdpodoaa

/- R.Has at ints; R.Model: gone. -/
namespace Go.Proofs.Ytpkccpegdpodoaa
open Go.RowKit

attribute [local go_sem ↓] Go.wp_at_zero Go.wp_at_succ

theorem contains_take {l : List Int} {x : Int} {k : Nat} {y : Int} (h : l[k]? = some y) : (l.take (k + 1)).contains x = ((l.take k).contains x || x == y) := by
  rw [List.take_add_one, h, Option.toList_some, Bool.eq_iff_iff, List.contains_iff_mem, Bool.or_eq_true, List.contains_iff_mem]
  simp

set_option maxHeartbeats 800000 in
set_option maxRecDepth 100000 in
theorem rhas_any (A : Option Addr) (c B n : Nat) (l : List Int) (x : Int) (w : World) (hn : l.length = n) (h : At w B A l) (hl : n ≤ 9223372036854775807) :
    Calls Try.prog 109 #[.slice A n c, .int .i64 x] w fun e w' => e = .returned (.bool (l.contains x)) ∧ w = w' := by
  have H := Lib.hid (And.intro h hn); clear h hn
  obtain ⟨r, hr⟩ : ∃ r, l.contains x = r := ⟨_, rfl⟩
  rw [hr]
  have HR := Lib.hid hr; clear hr
  go_enter Try.func109, Try.ntmps109
  go_wp2
  go_loopg [9] n (fun gk i wr => ∃ k : Nat, k ≤ n ∧ gk = n - k ∧ i = .int .i64 k ∧ Hid ((l.take k).contains x = false) ∧ w = wr)
  case atStart => exact ⟨0, Nat.zero_le _, rfl, rfl, by simp [Hid], rfl⟩
  case round =>
    obtain ⟨k, hk, rfl, rfl, hno, rfl⟩ := hrel
    by_cases hlt : k < n
    · obtain ⟨b, o, y, rfl, hb, hy, hyi, h0⟩ := H.out.1.int_ (k := k) (by have := H.out.2; omega)
      have b0 : (0 : Int) ≤ (k : Int) := by omega
      have b1 : (k : Int) < (n : Int) := by omega
      have hct := contains_take (x := x) hy
      rw [hno.out] at hct
      by_cases hxy : x = y
      · have hxy1 : (x == y) = true := by simpa using hxy
        have hrt : r = true := by rw [← HR.out]; exact List.contains_iff_mem.2 (hxy ▸ List.mem_of_getElem? hy)
        subst hrt
        clear hxy hy hct
        go_wp2
        go_ret
        exact ⟨rfl, rfl⟩
      · have hxy2 : (x == y) = false := by simpa using hxy
        rw [hxy2] at hct
        have HC := Lib.hid hct; clear hxy hy hct
        go_wp2
        go_roundg (n - (k + 1))
        case measure => omega
        case rel => exact ⟨k + 1, by omega, rfl, by go_num, HC.out, rfl⟩
    · have hrf : r = false := by
        rw [← HR.out]
        have h1 := hno.out
        rw [List.take_of_length_le (by have := H.out.2; omega)] at h1
        exact h1
      subst hrf
      go_wp2
      go_ret
      exact ⟨rfl, rfl⟩

set_option maxHeartbeats 3200000 in
set_option maxRecDepth 100000 in
theorem gone_any (w : World) (base lb p q lc : Nat) (F : Nat → Prop) (nu kind v : Int) (mk : Bool) (s : List It) (LA : Option Addr) (ls : List Int) (h : Mdl w base F p nu kind mk s) (hl : Own w lb 3 LA lc ls) (hlF : ∀ g, rowOf LA = some g → ¬ F g)
    (hin : ∀ x ∈ ls, ∃ n : Nat, x = (n : Int) ∧ n < s.length) (hq : ls.length = q) (hs : s.length ≤ 100) (hx10 : ∀ x ∈ s, x.has.length ≤ 10) (hv : I64 v) :
    Calls Try.prog 134 #[.pointer (some ⟨p, 0, none⟩), .slice LA q lc, .int .i64 v] w fun e w' => e = .returned (.int .i64 q) ∧ Mdl w' base F p nu kind mk (goneI ls v s) ∧ Touch F w w' := by
  obtain ⟨A, c, hA⟩ := h
  have hcap := hl.le_cap
  have hq9 : q ≤ 9223372036854775807 := by have := hcap.2; unfold maxLen at this; omega
  have hok : ∀ x ∈ ls, Flat.ok x := fun x hx => by obtain ⟨n, rfl, hn⟩ := hin x hx; show I64 _; unfold I64; omega
  have HV := Lib.hid hv
  have H := Lib.hid (And.intro hA (And.intro hl (And.intro hlF (And.intro hin (And.intro hq (And.intro hx10 hok)))))); clear hA hl hlF hin hq hx10 hv hcap hok
  go_enter Try.func134, Try.ntmps134
  go_wp2_with fail
  go_loopg [14] q (fun gk iv wr => ∃ (k : Nat), k ≤ q ∧ gk = q - k ∧ iv = .int .i64 k ∧ Hid (MdlA wr base F p nu kind mk A c (goneK (ls.take k) v s) ∧ Own wr lb 3 LA lc ls) ∧ Touch F w wr)
  case atStart => exact ⟨0, Nat.zero_le _, rfl, rfl, ⟨by rw [List.take_zero, goneK_nil]; exact H.out.1, H.out.2.1⟩, Touch.refl _ _⟩
  case round =>
    obtain ⟨k, hk, rfl, rfl, hkeep, hT⟩ := hrel
    by_cases hlt : k < q
    · obtain ⟨z, hz⟩ : ∃ z, ls[k]? = some z := ⟨_, List.getElem?_eq_getElem (by have := H.out.2.2.2.2.1; omega)⟩
      obtain ⟨gl, rfl, hgl1, hgl2⟩ := hkeep.out.2.some_ (by have := H.out.2.2.2.2.1; omega)
      have z0 := hkeep.out.2.cell_int hz
      obtain ⟨n, rfl, hn⟩ := H.out.2.2.2.1 z (List.mem_of_getElem? hz)
      obtain ⟨l, m1, m2, m3, m4, m5⟩ := hkeep.out.1
      have hll : l.length = s.length := by rw [← its_length, m5, goneK_length]
      obtain ⟨L, hL⟩ : ∃ L, l.length = L := ⟨_, rfl⟩
      have m1' := m1
      rw [hL] at m1'
      obtain ⟨x, hx⟩ : ∃ x, l[n]? = some x := ⟨_, List.getElem?_eq_getElem (by omega)⟩
      obtain ⟨g, rfl, hg1, hg2, q0, q1, q2⟩ := m2.cells hx
      have p0 := m1'.cell 0 (v := .slice (some ⟨g, 0, none⟩) L c) rfl
      have y0 := m2.row.frozen (g := g) rfl (n * 3)
      have y1 := m2.row.frozen (g := g) rfl (n * 3 + 1)
      have y2 := m2.row.frozen (g := g) rfl (n * 3 + 2)
      have b0 : (0 : Int) ≤ (k : Int) := by omega
      have b1 : (k : Int) < (q : Int) := by omega
      have n0 : (0 : Int) ≤ (n : Int) := by omega
      have n1 : (n : Int) < (L : Int) := by omega
      have hne : p ≠ g := fun e => own_ne_ty m2.row m1 (by decide) (by rw [← e]; rfl)
      have hgF := m2.foot g rfl
      have hglg : gl ≠ g := fun e => own_own_ty m2.row hkeep.out.2 (by decide) g rfl (by rw [← e]; rfl)
      have hgone := m2.setGone hx (by decide) v HV.out
      have hits := its_set l n x ⟨none, 0, [], v, false⟩ (fun _ => ⟨[], v, false⟩) hx rfl
      rw [m5, ← goneK_snoc] at hits
      have htk : ls.take (k + 1) = ls.take k ++ [(n : Int)] := by rw [List.take_add_one, hz]; rfl
      rw [← htk] at hits
      have hbl := ((m1.far (p := ⟨g, n * 3, none⟩) hne (.slice none 0 0)).far (p := ⟨g, n * 3 + 1, none⟩) hne (.int .i64 v)).far (p := ⟨g, n * 3 + 2, none⟩) hne (.bool false)
      have hol := ((hkeep.out.2.setCell ⟨g, n * 3, none⟩ (.slice none 0 0) (fun e => hglg (by injection e))).setCell ⟨g, n * 3 + 1, none⟩ (.int .i64 v) (fun e => hglg (by injection e))).setCell ⟨g, n * 3 + 2, none⟩ (.bool false) (fun e => hglg (by injection e))
      have HX := Lib.hid (And.intro hgone (And.intro hits (And.intro hbl (And.intro hol m3)))); clear m1 m1' m2 m3 m5 hll hL hx hgone hits htk hbl hol hkeep hz
      go_wp2_with fail
      go_roundg (q - (k + 1))
      case measure => omega
      case rel => exact ⟨k + 1, by omega, rfl, by go_num, ⟨⟨_, by rw [List.length_set]; exact HX.out.2.2.1, HX.out.1, HX.out.2.2.2.2, m4, HX.out.2.1⟩, HX.out.2.2.2.1⟩, ((hT.setCell hgF _).setCell hgF _).setCell hgF _⟩
    · obtain rfl : q = k := by omega
      have hf := hkeep.out
      rw [List.take_of_length_le (by have := H.out.2.2.2.2.1; omega)] at hf
      obtain ⟨s1, hs1⟩ : ∃ s1, goneK ls v s = s1 := ⟨_, rfl⟩
      rw [hs1] at hf
      have hs1l : s1.length = s.length := by rw [← hs1, goneK_length]
      have hs110 : ∀ x ∈ s1, x.has.length ≤ 10 := by
        intro x hx
        obtain ⟨i, hi⟩ := List.mem_iff_getElem?.1 hx
        have hil : i < s.length := by rw [← hs1l]; exact (List.getElem?_eq_some_iff.1 hi).1
        have h1 := goneK_get ls v s i (List.getElem?_eq_getElem hil)
        rw [hs1, hi] at h1
        injection h1 with h1
        rw [h1]
        split
        · simp
        · exact H.out.2.2.2.2.2.1 _ (List.getElem_mem hil)
      have hgI : goneI ls v s = s1.map (clearL ls) := by rw [goneI_eq, hs1]
      obtain ⟨N, hN⟩ : ∃ N, s1.length = N := ⟨_, rfl⟩
      have hN100 : N ≤ 100 := by omega
      obtain ⟨l, m1, m2, m3, m4, m5⟩ := hf.1
      have hlN : l.length = N := by rw [← its_length, m5]; exact hN
      have p0 := m1.cell 0 (v := .slice A l.length c) rfl
      rw [hlN] at p0
      have H2 := Lib.hid (And.intro hf (And.intro hs110 (And.intro hgI (And.intro hN hs1)))); clear hf hs1 hs1l hs110 hgI hN m1 m2 m3 m5 hlN hkeep
      go_wp2_with fail
      clear p0
      go_loopg [32] N (fun gk iv wq => ∃ (n : Nat), n ≤ N ∧ gk = N - n ∧ iv = .int .i64 n ∧ Hid (MdlA wq base F p nu kind mk A c (clrK ls n s1) ∧ Own wq lb 3 LA lc ls) ∧ Touch F w wq)
      case atStart => exact ⟨0, Nat.zero_le _, rfl, rfl, ⟨by rw [clrK_zero]; exact H2.out.1.1, H2.out.1.2⟩, hT⟩
      case round =>
        obtain ⟨n, hn, rfl, rfl, hkeep, hT2⟩ := hrel
        by_cases hltn : n < N
        · obtain ⟨x, hsx⟩ : ∃ x, s1[n]? = some x := ⟨_, List.getElem?_eq_getElem (by have := H2.out.2.2.2.1; omega)⟩
          obtain ⟨xh, xs, xb⟩ := x
          obtain ⟨l, m1, m2, m3, m4, m5⟩ := hkeep.out.1
          have hlN : l.length = N := by rw [← its_length, m5, clrK_length, H2.out.2.2.2.1]
          obtain ⟨y, hy⟩ : ∃ y, l[n]? = some y := ⟨_, List.getElem?_eq_getElem (by omega)⟩
          obtain ⟨g, rfl, hg1, hg2, q0, q1, q2⟩ := m2.cells hy
          have hyx : y.has = xh := by
            have h1 := clrK_get ls n s1 n hsx
            rw [if_neg (by omega), ← m5, its_get hy] at h1
            injection h1 with h1
            exact congrArg It.has h1
          have hx10 : xh.length ≤ 10 := H2.out.2.1 _ (List.mem_of_getElem? hsx)
          obtain ⟨xn, hxn⟩ : ∃ n, xh.length = n := ⟨_, rfl⟩
          rw [hyx, hxn] at q0
          rw [hxn] at hx10
          have p0 := m1.cell 0 (v := .slice (some ⟨g, 0, none⟩) l.length c) rfl
          rw [hlN] at p0
          have n0 : (0 : Int) ≤ (n : Int) := by omega
          have n1 : (n : Int) < (N : Int) := by omega
          have hM0 : MdlL wr base F p nu kind mk (some ⟨g, 0, none⟩) c (clrI ls n 0 s1) l := ⟨m1, m2, m3, m4, by rw [clrI_zero]; exact m5⟩
          obtain ⟨YA, yc, yh, ys, yb⟩ := y
          simp only at hyx q0 q1 q2
          subst hyx
          have HX := Lib.hid (And.intro hM0 (And.intro hy (And.intro hsx (And.intro hxn hkeep.out.2)))); clear m1 m2 m3 m5 hlN hM0 hy hsx hxn hkeep
          go_wp2_with fail
          clear p0 q0 q1 q2
          go_loopg [44] xn (fun gk jv wj => ∃ (j : Nat), j ≤ xn ∧ gk = xn - j ∧ jv = .int .i64 j ∧ Hid ((∃ l', MdlL wj base F p nu kind mk (some ⟨g, 0, none⟩) c (clrI ls n j s1) l' ∧ ∃ x', l'[n]? = some x' ∧ x'.A = YA ∧ x'.c = yc) ∧ Own wj lb 3 LA lc ls) ∧ Touch F w wj)
          case atStart => exact ⟨0, Nat.zero_le _, rfl, rfl, ⟨⟨l, HX.out.1, _, HX.out.2.1, rfl, rfl⟩, HX.out.2.2.2.2⟩, hT2⟩
          case round =>
            obtain ⟨j, hj, rfl, rfl, hkj, hT3⟩ := hrel
            obtain ⟨⟨l', ⟨k1, k2, k3, k4, k5⟩, x', hx', hxA, hxc⟩, ko⟩ := hkj.out
            have hl' : l'.length = N := by rw [← its_length, k5, clrI_length]; exact H2.out.2.2.2.1
            have hxh : x'.has = (clrH ls j ⟨yh, xs, xb⟩).has := by
              have h1 := clrI_get ls n j s1 HX.out.2.2.1
              rw [← k5, its_get hx'] at h1
              injection h1 with h1
              exact congrArg It.has h1
            have hxlen : x'.has.length = xn := by
              rw [hxh]; unfold clrH
              simp only [List.length_append, List.length_map, List.length_take, List.length_drop]
              have := HX.out.2.2.2.1; omega
            by_cases hltj : j < xn
            · obtain ⟨z, hz⟩ : ∃ z, yh[j]? = some z := ⟨_, List.getElem?_eq_getElem (by have := HX.out.2.2.2.1; omega)⟩
              have hxz : x'.has[j]? = some z := by
                rw [hxh]; unfold clrH
                have hl2 : ((yh.take j).map (clr ls)).length = j := by rw [List.length_map, List.length_take]; have := HX.out.2.2.2.1; omega
                simp only
                rw [List.getElem?_append_right (by omega), hl2, Nat.sub_self, List.getElem?_drop, Nat.add_zero]; exact hz
              obtain ⟨g', hgg, -, -, q0, -, -⟩ := k2.cells hx'
              injection hgg with hgg; injection hgg with hgg; subst hgg
              rw [hxA, hxc, hxlen] at q0
              have hsub := k2.sub n x' hx'
              have hown := hsub.1
              rw [hxA, hxc] at hown
              obtain ⟨gx, rfl, hgx1, hgx2⟩ := hown.some_ (by omega)
              have z0 := hown.cell_int hxz
              have zf := hown.frozen (g := gx) rfl j
              have p0 := k1.cell 0 (v := .slice (some ⟨g, 0, none⟩) l'.length c) rfl
              rw [hl'] at p0
              have j0 : (0 : Int) ≤ (j : Int) := by omega
              have j1 : (j : Int) < (xn : Int) := by omega
              have hgxF : F gx := hsub.2.1 gx (by rw [hxA]; rfl)
              have hst := clrI_step ls n j s1 HX.out.2.2.1 hz
              have hset := k2.setHas hx' (by decide) hxA (j := j) (by omega) (-1) (by unfold I64; omega)
              have hits := its_set l' n x' { x' with has := x'.has.set j (-1) } (It.sethas j (-1)) hx' rfl
              rw [k5] at hits
              have hne : p ≠ gx := fun e => own_ne_ty hown k1 (by decide) (by rw [← e]; rfl)
              have hol := ko.setCell ⟨gx, j, none⟩ (.int .i64 (-1)) (fun e => H.out.2.2.1 gx e hgxF)
              have hbl := k1.far (p := ⟨gx, j, none⟩) hne (.int .i64 (-1))
              have hxn2 : (l'.set n { x' with has := x'.has.set j (-1) })[n]? = some { x' with has := x'.has.set j (-1) } := by rw [List.getElem?_set_self (by omega)]
              have hlh := rhas_any LA lc wr.heap.size q ls z wr H.out.2.2.2.2.1 (ko.at_ H.out.2.2.2.2.2.2) hq9
              obtain ⟨r, hr⟩ : ∃ r, ls.contains z = r := ⟨_, rfl⟩
              rw [hr] at hst hlh
              have HJ := Lib.hid (And.intro hlh (And.intro hst (And.intro hset (And.intro hits (And.intro hbl (And.intro hol (And.intro hxn2 (And.intro k3 (And.intro hkj.out (And.intro hxA hxc)))))))))); clear hlh hst hset hits hbl hol hxn2 k1 k2 k3 k5 hkj hxA hxc ko hx' hxh hxlen hxz hz hsub hown hr hl'
              cases r with
              | false =>
                go_wp2_with fail
                refine HJ.out.1.mono ?_
                rintro e w5 ⟨rfl, rfl⟩
                go_wp2_with fail
                go_roundg (xn - (j + 1))
                case measure => omega
                case rel => exact ⟨j + 1, by omega, rfl, by go_num, by have h1 := HJ.out.2.2.2.2.2.2.2.2.1; have h2 := HJ.out.2.1; rw [if_neg (by simp)] at h2; unfold Hid; rw [h2]; exact h1, hT3⟩
              | true =>
                go_wp2_with fail
                refine HJ.out.1.mono ?_
                rintro e w5 ⟨rfl, rfl⟩
                go_wp2_with fail
                go_roundg (xn - (j + 1))
                case measure => omega
                case rel => exact ⟨j + 1, by omega, rfl, by go_num, by have h2 := HJ.out.2.1; rw [if_pos trivial] at h2; unfold Hid; rw [h2]; exact ⟨⟨_, ⟨by rw [List.length_set]; exact HJ.out.2.2.2.2.1, HJ.out.2.2.1, HJ.out.2.2.2.2.2.2.2.1, k4, HJ.out.2.2.2.1⟩, _, HJ.out.2.2.2.2.2.2.1, HJ.out.2.2.2.2.2.2.2.2.2.1, HJ.out.2.2.2.2.2.2.2.2.2.2⟩, HJ.out.2.2.2.2.2.1⟩, hT3.setCell hgxF _⟩
            · obtain rfl : xn = j := by omega
              have hdone := clrI_done ls n s1 HX.out.2.2.1
              simp only [HX.out.2.2.2.1] at hdone
              rw [hdone] at k5
              have HE := Lib.hid (And.intro (show MdlA wr base F p nu kind mk (some ⟨g, 0, none⟩) c (clrK ls (n + 1) s1) from ⟨l', k1, k2, k3, k4, k5⟩) ko); clear k1 k2 k3 k5 ko hx' hxA hxc hxh hxlen hl' hdone hkj
              go_wp2_with fail
              go_roundg (N - (n + 1))
              case measure => omega
              case rel => exact ⟨n + 1, by omega, rfl, by go_num, ⟨HE.out.1, HE.out.2⟩, hT3⟩
        · obtain rfl : N = n := by omega
          have hf := hkeep.out.1
          have hall : clrK ls N s1 = goneI ls v s := by rw [H2.out.2.2.1, ← clrK_all, H2.out.2.2.2.1]
          rw [hall] at hf
          have HF := Lib.hid hf; clear hf hall hkeep
          go_wp2_with fail
          go_ret
          exact ⟨rfl, ⟨A, c, HF.out⟩, hT2⟩

end Go.Proofs.Ytpkccpegdpodoaa

/- Two generations, the plain law: who stays, what goes, what is remembered. No program is named here. -/
namespace Go.Proofs.Ytpkccpegdpodoaa

/-- a young one that a collection of the young ones keeps -/
inductive Yg (s : List It) : Nat → Prop
  | held {k : Nat} : stAt s k = some 0 → heldAt s k → Yg s k
  | old {i k : Nat} : stAt s i = some 1 → edge s i k → stAt s k = some 0 → Yg s k
  | step {i k : Nat} : Yg s i → edge s i k → stAt s k = some 0 → Yg s k
theorem Yg.young {s : List It} {k : Nat} (h : Yg s k) : stAt s k = some 0 := by cases h <;> assumption

structure GInv (s : List It) : Prop where
  small : s.length ≤ 100
  long : ∀ x ∈ s, x.has.length ≤ 10
  refs : ∀ x ∈ s, ∀ k ∈ x.has, k = -1 ∨ ∃ n : Nat, k = (n : Int) ∧ n < s.length ∧ stAt s n ≠ some 2
  sts : ∀ x ∈ s, x.st = 0 ∨ x.st = 1 ∨ x.st = 2
  gone : ∀ x ∈ s, x.st = 2 → x.has = [] ∧ x.held = false
theorem GInv.start : GInv [] := ⟨by simp, by simp, by simp, by simp, by simp⟩

section
variable {s : List It}
theorem GInv.right (h : GInv s) : Right (gHas s) := by
  intro l hl x hx
  unfold gHas at hl
  obtain ⟨y, hy, rfl⟩ := List.mem_map.1 hl
  have hm := List.mem_filter.1 hx
  rcases h.refs y hy x hm.1 with h1 | ⟨n, h1, h2, -⟩
  · subst h1; simp at hm
  · exact ⟨n, h1, by rw [gHas_length]; exact h2⟩
theorem GInv.rightL (_h : GInv s) : RightL (gHas s).length (gRoots s) := by
  intro x hx
  obtain ⟨n, rfl, y, h1, -⟩ := mem_gRoots.1 hx
  exact ⟨n, rfl, by rw [gHas_length]; exact (List.getElem?_eq_some_iff.1 h1).1⟩
theorem GInv.edge_lt (h : GInv s) {i k : Nat} (he : edge s i k) : k < s.length ∧ stAt s k ≠ some 2 := by
  obtain ⟨x, hx, hk⟩ := he
  rcases h.refs x (List.mem_of_getElem? hx) _ hk with h1 | ⟨n, h1, h2, h3⟩
  · omega
  · obtain rfl : n = k := by omega
    exact ⟨h2, h3⟩
theorem GInv.held_alive (h : GInv s) {i : Nat} (he : heldAt s i) : i < s.length ∧ stAt s i ≠ some 2 := by
  obtain ⟨x, hx, hk⟩ := he
  refine ⟨(List.getElem?_eq_some_iff.1 hx).1, fun e => ?_⟩
  rw [stAt_get hx] at e
  injection e with e
  have := (h.gone x (List.mem_of_getElem? hx) e).2
  rw [hk] at this; cases this
theorem GInv.need (h : GInv s) {n : Nat} (hn : RT (gHas s) (gRoots s) [] n) : n < s.length ∧ stAt s n ≠ some 2 := by
  cases hn with
  | root h1 =>
    obtain ⟨m, e, hm⟩ := mem_gRoots.1 h1
    obtain rfl : m = _ := (Int.ofNat.inj e).symm
    exact h.held_alive hm
  | edge hr h1 h2 => exact h.edge_lt (gHas_edge h1 h2)
  | pair _ h1 => simp at h1
theorem GInv.st_cases (h : GInv s) {i : Nat} (hi : i < s.length) : stAt s i = some 0 ∨ stAt s i = some 1 ∨ stAt s i = some 2 := by
  have hx : s[i]? = some s[i] := List.getElem?_eq_getElem hi
  rw [stAt_get hx]
  rcases h.sts _ (List.mem_of_getElem? hx) with h | h | h <;> rw [h] <;> simp
end

/-! ### a collection -/
def stayX (ag : List Int) (st : List Bool) (n : Nat) (x : It) : It := if (ag.contains x.st && st.getD n false) = true then x.setst 1 else x
def stayL (ag : List Int) (st : List Bool) (s : List It) : List It := s.mapIdx (stayX ag st)
def outB (ag : List Int) (st : List Bool) (s : List It) : List Bool := s.mapIdx fun n x => ag.contains x.st && !st.getD n false
def outL (ag : List Int) (st : List Bool) (s : List It) : List Int := rising (outB ag st s)
def collectI (ag : List Int) (st : List Bool) (s : List It) : List It := goneI (outL ag st s) 2 (stayL ag st s)
theorem stayL_length (ag : List Int) (st : List Bool) (s : List It) : (stayL ag st s).length = s.length := by simp [stayL]
theorem outB_length (ag : List Int) (st : List Bool) (s : List It) : (outB ag st s).length = s.length := by simp [outB]
theorem stayL_get (ag : List Int) (st : List Bool) (s : List It) (i : Nat) {x : It} (h : s[i]? = some x) : (stayL ag st s)[i]? = some (stayX ag st i x) := by
  unfold stayL; rw [List.getElem?_mapIdx, h]; rfl
theorem outB_get (ag : List Int) (st : List Bool) (s : List It) (i : Nat) {x : It} (h : s[i]? = some x) : (outB ag st s)[i]? = some (ag.contains x.st && !st.getD i false) := by
  unfold outB; rw [List.getElem?_mapIdx, h]; rfl
theorem mem_outL (ag : List Int) (st : List Bool) (s : List It) (i : Nat) {x : It} (h : s[i]? = some x) : (outL ag st s).contains (i : Int) = (ag.contains x.st && !st.getD i false) := by
  rw [Bool.eq_iff_iff, List.contains_iff_mem]
  unfold outL
  rw [mem_rising]
  constructor
  · rintro ⟨n, e, h1⟩
    obtain rfl : n = i := by omega
    rw [outB_get ag st s n h] at h1
    injection h1
  · intro h1
    exact ⟨i, rfl, by rw [outB_get ag st s i h, h1]⟩
theorem outL_in (ag : List Int) (st : List Bool) (s : List It) : ∀ x ∈ outL ag st s, ∃ n : Nat, x = (n : Int) ∧ n < s.length := by
  intro x hx
  unfold outL at hx
  obtain ⟨n, rfl, h⟩ := (mem_rising _ _).1 hx
  have := (List.getElem?_eq_some_iff.1 h).1
  rw [outB_length] at this
  exact ⟨n, rfl, this⟩
theorem goneI_lengthG (ls : List Int) (v : Int) (s : List It) : (goneI ls v s).length = s.length := by simp [goneI]
theorem collectI_length (ag : List Int) (st : List Bool) (s : List It) : (collectI ag st s).length = s.length := by
  unfold collectI; rw [goneI_lengthG, stayL_length]
/-- what a thing comes to -/
def endX (ag : List Int) (st : List Bool) (ls : List Int) (i : Nat) (x : It) : It :=
  if ag.contains x.st = true then (if st.getD i false = true then clearL ls (x.setst 1) else ⟨[], 2, false⟩) else clearL ls x
theorem collectI_get (ag : List Int) (st : List Bool) (s : List It) (i : Nat) {x : It} (h : s[i]? = some x) : (collectI ag st s)[i]? = some (endX ag st (outL ag st s) i x) := by
  unfold collectI
  rw [goneI_eq, List.getElem?_map, goneK_get _ 2 _ i (stayL_get ag st s i h), mem_outL ag st s i h]
  unfold stayX endX
  cases ag.contains x.st <;> cases st.getD i false <;> simp [clearL]
theorem collectI_back (ag : List Int) (st : List Bool) (s : List It) {x' : It} (h : x' ∈ collectI ag st s) : ∃ i x, s[i]? = some x ∧ (collectI ag st s)[i]? = some x' ∧ x' = endX ag st (outL ag st s) i x := by
  obtain ⟨i, hi⟩ := List.mem_iff_getElem?.1 h
  have hlt : i < s.length := by rw [← collectI_length ag st s]; exact (List.getElem?_eq_some_iff.1 hi).1
  have hx : s[i]? = some s[i] := List.getElem?_eq_getElem hlt
  refine ⟨i, _, hx, hi, ?_⟩
  rw [collectI_get ag st s i hx] at hi
  injection hi with hi; exact hi.symm
theorem GInv.collect {s : List It} (h : GInv s) (ag : List Int) (st : List Bool) : GInv (collectI ag st s) := by
  have hhas : ∀ (i : Nat) (x : It), (endX ag st (outL ag st s) i x).has = [] ∨ (endX ag st (outL ag st s) i x).has = (clearL (outL ag st s) x).has := by
    intro i x; unfold endX clearL It.setst
    split
    · split
      · exact .inr rfl
      · exact .inl rfl
    · exact .inr rfl
  refine ⟨by rw [collectI_length]; exact h.small, fun x' hx' => ?_, fun x' hx' k hk => ?_, fun x' hx' => ?_, fun x' hx' h2 => ?_⟩
  · obtain ⟨i, x, hx, -, rfl⟩ := collectI_back ag st s hx'
    rcases hhas i x with e | e
    · rw [e]; simp
    · rw [e]; unfold clearL; simpa using h.long x (List.mem_of_getElem? hx)
  · obtain ⟨i, x, hx, -, rfl⟩ := collectI_back ag st s hx'
    rcases hhas i x with e | e
    · rw [e] at hk; simp at hk
    · rw [e] at hk
      unfold clearL at hk
      obtain ⟨q, hq, rfl⟩ := List.mem_map.1 hk
      by_cases hc : (outL ag st s).contains q = true
      · rw [if_pos hc]; exact .inl rfl
      · rw [if_neg hc]
        rcases h.refs x (List.mem_of_getElem? hx) q hq with e | ⟨n, rfl, e2, e3⟩
        · exact .inl e
        · refine .inr ⟨n, rfl, by rw [collectI_length]; exact e2, ?_⟩
          have hn : s[n]? = some s[n] := List.getElem?_eq_getElem e2
          rw [stAt_get hn] at e3
          rw [mem_outL ag st s n hn] at hc
          rw [stAt_get (collectI_get ag st s n hn)]
          unfold endX
          cases hag : ag.contains (s[n]).st with
          | false => simpa [clearL] using e3
          | true =>
            cases hst : st.getD n false with
            | false => rw [hag, hst] at hc; exact absurd rfl hc
            | true => simp [clearL, It.setst]
  · obtain ⟨i, x, hx, -, rfl⟩ := collectI_back ag st s hx'
    unfold endX
    split
    · split
      · simp [clearL, It.setst]
      · simp
    · exact h.sts x (List.mem_of_getElem? hx)
  · obtain ⟨i, x, hx, -, rfl⟩ := collectI_back ag st s hx'
    unfold endX at h2 ⊢
    split
    · split
      · rename_i h3 h4
        rw [if_pos h3, if_pos h4] at h2
        simp [clearL, It.setst] at h2
      · exact ⟨rfl, rfl⟩
    · rename_i h3
      rw [if_neg h3] at h2
      have := h.gone x (List.mem_of_getElem? hx) h2
      simp [clearL, this.1, this.2]
/-- nothing is young behind it -/
theorem collect_old {s : List It} (ag : List Int) (st : List Bool) (h0 : (0 : Int) ∈ ag) (i : Nat) : stAt (collectI ag st s) i ≠ some 0 := by
  intro e
  obtain ⟨x', h1, h2⟩ := get_stAt e
  obtain ⟨j, x, hx, -, rfl⟩ := collectI_back ag st s (List.mem_of_getElem? h1)
  unfold endX at h2
  split at h2
  · split at h2
    · simp [clearL, It.setst] at h2
    · simp at h2
  · rename_i h3
    have h4 : x.st = 0 := h2
    rw [h4, List.contains_iff_mem] at h3
    exact h3 h0

/-! ### the collection as the program does it: first thing by thing, then place by place -/
def colX (ag : List Int) (st : List Bool) (n : Nat) (x : It) : It := if ag.contains x.st = true then (if st.getD n false = true then x.setst 1 else ⟨[], 2, false⟩) else x
def colK (ag : List Int) (st : List Bool) (m : Nat) (s : List It) : List It := s.mapIdx fun n x => if n < m then colX ag st n x else x
theorem colK_length (ag : List Int) (st : List Bool) (m : Nat) (s : List It) : (colK ag st m s).length = s.length := by simp [colK]
theorem colK_get (ag : List Int) (st : List Bool) (m : Nat) (s : List It) (i : Nat) {x : It} (h : s[i]? = some x) : (colK ag st m s)[i]? = some (if i < m then colX ag st i x else x) := by
  unfold colK; rw [List.getElem?_mapIdx, h]; rfl
theorem colK_zero (ag : List Int) (st : List Bool) (s : List It) : colK ag st 0 s = s := by
  apply List.ext_getElem?; intro i
  unfold colK; rw [List.getElem?_mapIdx]
  cases s[i]? <;> simp
theorem colK_step (ag : List Int) (st : List Bool) (m : Nat) (s : List It) : colK ag st (m + 1) s = (colK ag st m s).modify m (colX ag st m) := by
  apply List.ext_getElem?; intro i
  rw [get_modify]
  cases hs : s[i]? with
  | none =>
    have hi : s.length ≤ i := by rw [List.getElem?_eq_none_iff] at hs; exact hs
    rw [List.getElem?_eq_none (by rw [colK_length]; exact hi), List.getElem?_eq_none (by rw [colK_length]; exact hi)]
    simp
  | some x =>
    rw [colK_get ag st (m + 1) s i hs, colK_get ag st m s i hs]
    by_cases e : m = i
    · subst e
      rw [if_pos (by omega), if_pos rfl, if_neg (by omega)]; rfl
    · rw [if_neg e]
      by_cases h : i < m
      · rw [if_pos (by omega), if_pos h]
      · rw [if_neg (by omega), if_neg h]
theorem colK_all (ag : List Int) (st : List Bool) (s : List It) : colK ag st s.length s = goneK (outL ag st s) 2 (stayL ag st s) := by
  apply List.ext_getElem?; intro i
  cases hs : s[i]? with
  | none =>
    have hi : s.length ≤ i := by rw [List.getElem?_eq_none_iff] at hs; exact hs
    rw [List.getElem?_eq_none (by rw [colK_length]; exact hi), List.getElem?_eq_none (by rw [goneK_length, stayL_length]; exact hi)]
  | some x =>
    rw [colK_get ag st _ s i hs, if_pos (List.getElem?_eq_some_iff.1 hs).1, goneK_get _ 2 _ i (stayL_get ag st s i hs), mem_outL ag st s i hs]
    unfold colX stayX
    cases ag.contains x.st <;> cases st.getD i false <;> simp
/-- how many went -/
theorem outL_snoc (ag : List Int) (st : List Bool) (s : List It) (k : Nat) {x : It} (h : s[k]? = some x) : rising ((outB ag st s).take (k + 1)) = rising ((outB ag st s).take k) ++ if (ag.contains x.st && !st.getD k false) = true then [(k : Int)] else [] :=
  rising_snoc _ k _ (outB_get ag st s k h)
/-- a place is cleared just if what it has is gone -/
theorem clear_iff {s : List It} (h : GInv s) (ag : List Int) (st : List Bool) {i : Nat} {x : It} (hx : (goneK (outL ag st s) 2 (stayL ag st s))[i]? = some x) {k : Int} (hk : k ∈ x.has) :
    k = -1 ∧ (outL ag st s).contains k = false ∨ ∃ n : Nat, k = (n : Int) ∧ n < s.length ∧ (stAt (goneK (outL ag st s) 2 (stayL ag st s)) n = some 2 ↔ (outL ag st s).contains k = true) := by
  have hlt : i < s.length := by have := (List.getElem?_eq_some_iff.1 hx).1; rw [goneK_length, stayL_length] at this; exact this
  have hs : s[i]? = some s[i] := List.getElem?_eq_getElem hlt
  have hin : k ∈ (s[i]).has := by
    rw [goneK_get _ 2 _ i (stayL_get ag st s i hs)] at hx
    injection hx with hx
    subst hx
    split at hk
    · simp at hk
    · unfold stayX at hk
      split at hk
      · exact hk
      · exact hk
  rcases h.refs _ (List.mem_of_getElem? hs) k hin with rfl | ⟨n, rfl, e2, e3⟩
  · left
    refine ⟨rfl, ?_⟩
    rw [Bool.eq_false_iff]
    intro hc
    obtain ⟨n, e, -⟩ := outL_in ag st s _ (List.contains_iff_mem.1 hc)
    omega
  · right
    refine ⟨n, rfl, e2, ?_⟩
    have hn : s[n]? = some s[n] := List.getElem?_eq_getElem e2
    rw [stAt_get hn] at e3
    rw [stAt_get (goneK_get (outL ag st s) 2 _ n (stayL_get ag st s n hn)), mem_outL ag st s n hn]
    unfold stayX
    cases ag.contains (s[n]).st <;> cases st.getD n false <;> simp [It.setst] <;> simpa using e3

end Go.Proofs.Ytpkccpegdpodoaa

/- Two generations: the deeds; what is remembered. No program is named here. -/
namespace Go.Proofs.Ytpkccpegdpodoaa

/-! ### who stays -/
open Classical in
noncomputable def ygL (s : List It) : List Bool := (List.range s.length).map fun n => decide (Yg s n)
def Sound (s : List It) (st : List Bool) : Prop := st.length = s.length ∧ ∀ n : Nat, st[n]? = some true → Yg s n
def Closed (s : List It) (st : List Bool) : Prop :=
  (∀ k : Nat, stAt s k = some 0 → heldAt s k → st[k]? = some true) ∧ (∀ i k : Nat, (stAt s i = some 1 ∨ st[i]? = some true) → edge s i k → stAt s k = some 0 → st[k]? = some true)
theorem ygL_length (s : List It) : (ygL s).length = s.length := by simp [ygL]
open Classical in
theorem ygL_get (s : List It) (n : Nat) (h : n < s.length) : (ygL s)[n]? = some (decide (Yg s n)) := by
  unfold ygL; rw [List.getElem?_map, List.getElem?_range h]; rfl
theorem Closed.yg {s : List It} {st : List Bool} (h : Closed s st) {n : Nat} (hy : Yg s n) : st[n]? = some true := by
  induction hy with
  | held h1 h2 => exact h.1 _ h1 h2
  | old h1 h2 h3 => exact h.2 _ _ (.inl h1) h2 h3
  | step _ h2 h3 ih => exact h.2 _ _ (.inr ih) h2 h3
open Classical in
theorem ygL_eq {s : List It} {st : List Bool} (h1 : Sound s st) (h2 : Closed s st) : st = ygL s := by
  apply List.ext_getElem?
  intro n
  by_cases hn : n < s.length
  · rw [ygL_get s n hn]
    have hx : st[n]? = some (st[n]'(by rw [h1.1]; exact hn)) := List.getElem?_eq_getElem _
    by_cases hy : Yg s n
    · rw [h2.yg hy, decide_eq_true hy]
    · rw [decide_eq_false hy]
      rw [hx]
      congr 1
      rw [Bool.eq_false_iff]
      intro e
      exact hy (h1.2 n (by rw [hx, e]))
  · rw [List.getElem?_eq_none (by rw [h1.1]; omega), List.getElem?_eq_none (by rw [ygL_length]; omega)]

noncomputable def minorI (s : List It) : List It := collectI [0] (ygL s) s
noncomputable def minorN (s : List It) : Nat := (outL [0] (ygL s) s).length
noncomputable def majorI (s : List It) : List It := collectI [0, 1] (needed s) s
noncomputable def majorN (s : List It) : Nat := (outL [0, 1] (needed s) s).length
noncomputable def roomI (nu : Int) (s : List It) : List It := if nu ≤ ((are s 0).length : Int) then minorI s else s
def setG (d : Dd) (s : List It) : List It := s.modify d.a.toNat (It.sethas d.n.toNat d.b)
def holdG (d : Dd) (s : List It) : List It := s.modify d.a.toNat (It.sethl (decide (d.dd = 4)))

/-- what a deed comes to: a number, an error, the things -/
noncomputable def gensI (nu : Int) (s : List It) (d : Dd) : Int × Int × List It :=
  if d.dd = 1 then (if newE s d.n ≠ 0 then (0, newE s d.n, s) else ((s.length : Int), 0, roomI nu s ++ [newI 0 d.n]))
  else if d.dd = 2 then (if setE s d ≠ 0 then (0, setE s d, s) else (0, 0, setG d s))
  else if d.dd = 4 ∨ d.dd = 3 then (if holdE s d ≠ 0 then (0, holdE s d, s) else (0, 0, holdG d s))
  else if d.dd = 6 then ((minorN s : Int), 0, minorI s)
  else if d.dd = 7 then ((majorN s : Int), 0, majorI s)
  else (0, 7, s)
theorem minorI_length (s : List It) : (minorI s).length = s.length := collectI_length _ _ _
theorem majorI_length (s : List It) : (majorI s).length = s.length := collectI_length _ _ _
theorem roomI_length (nu : Int) (s : List It) : (roomI nu s).length = s.length := by unfold roomI; split; exact minorI_length s; rfl

/-! ### what is remembered -/
def youngP (s : List It) (v : Int) : Prop := ∃ k : Nat, v = (k : Int) ∧ stAt s k = some 0
structure RemP (s : List It) (P : Nat → Prop) : Prop where
  all : ∀ i k : Nat, stAt s i = some 1 → edge s i k → stAt s k = some 0 → P i
  old : ∀ i : Nat, P i → stAt s i = some 1
section
variable {s : List It} {P : Nat → Prop}
theorem RemP.start : RemP [] (fun _ => False) := ⟨fun i k h => by simp [stAt] at h, fun i h => h.elim⟩
theorem RemP.none (h : ∀ i, stAt s i ≠ some 0) : RemP s (fun _ => False) := ⟨fun i k _ _ h0 => h k h0, fun i h => h.elim⟩
theorem RemP.iff {Q : Nat → Prop} (h : RemP s P) (hq : ∀ i, P i ↔ Q i) : RemP s Q := ⟨fun i k h1 h2 h3 => (hq i).1 (h.all i k h1 h2 h3), fun i h1 => h.old i ((hq i).2 h1)⟩
theorem stAt_push (s : List It) (y : It) {i : Nat} (h : i < s.length) : stAt (s ++ [y]) i = stAt s i := by unfold stAt; rw [List.getElem?_append_left h]
theorem push_getG {s : List It} {y x : It} {i : Nat} (h : (s ++ [y])[i]? = some x) : s[i]? = some x ∨ i = s.length ∧ x = y := by
  have hlt := (List.getElem?_eq_some_iff.1 h).1
  rw [List.length_append, List.length_singleton] at hlt
  by_cases e : i < s.length
  · rw [List.getElem?_append_left e] at h; exact .inl h
  · obtain rfl : i = s.length := by omega
    simp at h; exact .inr ⟨rfl, h.symm⟩
theorem newI_has {v n k : Int} (h : k ∈ (newI v n).has) : k = -1 := by simp only [newI, List.mem_replicate] at h; exact h.2
theorem RemP.push (h : RemP s P) (hr : GInv s) (n : Int) : RemP (s ++ [newI 0 n]) P := by
  refine ⟨fun i k h1 h2 h3 => ?_, fun i hi => ?_⟩
  · obtain ⟨x, hx, hk⟩ := h2
    rcases push_getG hx with hx | ⟨-, rfl⟩
    · have hi := (List.getElem?_eq_some_iff.1 hx).1
      have he : edge s i k := ⟨x, hx, hk⟩
      rw [stAt_push s _ hi] at h1
      rw [stAt_push s _ (hr.edge_lt he).1] at h3
      exact h.all i k h1 he h3
    · have := newI_has hk; omega
  · have h1 := h.old i hi
    rw [stAt_push s _ (stAt_lt h1)]; exact h1
theorem stAt_hl (s : List It) (a : Nat) (b : Bool) (i : Nat) : stAt (s.modify a (It.sethl b)) i = stAt s i := by
  unfold stAt; rw [get_modify]
  split
  · cases s[i]? <;> rfl
  · rfl
theorem edge_hl (s : List It) (a : Nat) (b : Bool) (i k : Nat) : edge (s.modify a (It.sethl b)) i k ↔ edge s i k := by
  unfold edge; rw [get_modify]
  split
  · cases s[i]? <;> simp [It.sethl]
  · exact Iff.rfl
theorem stAt_has (s : List It) (a j : Nat) (v : Int) (i : Nat) : stAt (s.modify a (It.sethas j v)) i = stAt s i := by
  unfold stAt; rw [get_modify]
  split
  · cases s[i]? <;> rfl
  · rfl
theorem edge_has {s : List It} {a j : Nat} {v : Int} {i k : Nat} (h : edge (s.modify a (It.sethas j v)) i k) : edge s i k ∨ i = a ∧ v = (k : Int) := by
  obtain ⟨x', h1, h2⟩ := h
  rw [get_modify] at h1
  split at h1
  · rename_i e
    cases hs : s[i]? with
    | none => rw [hs] at h1; cases h1
    | some x =>
      rw [hs] at h1; injection h1 with h1; subst h1
      rcases List.mem_or_eq_of_mem_set h2 with h3 | h3
      · exact .inl ⟨x, hs, h3⟩
      · exact .inr ⟨e.symm, h3.symm⟩
  · exact .inl ⟨x', h1, h2⟩
theorem RemP.hold (h : RemP s P) (a : Nat) (b : Bool) : RemP (s.modify a (It.sethl b)) P :=
  ⟨fun i k h1 h2 h3 => h.all i k (by rw [← stAt_hl s a b]; exact h1) ((edge_hl s a b i k).1 h2) (by rw [← stAt_hl s a b]; exact h3), fun i hi => by rw [stAt_hl]; exact h.old i hi⟩
theorem RemP.set (h : RemP s P) (a j : Nat) (v : Int) : RemP (s.modify a (It.sethas j v)) (fun i => P i ∨ i = a ∧ stAt s a = some 1 ∧ youngP s v) := by
  refine ⟨fun i k h1 h2 h3 => ?_, fun i hi => ?_⟩
  · rw [stAt_has] at h1 h3
    rcases edge_has h2 with h2 | ⟨rfl, rfl⟩
    · exact .inl (h.all i k h1 h2 h3)
    · exact .inr ⟨rfl, h1, k, rfl, h3⟩
  · rw [stAt_has]
    rcases hi with hi | ⟨rfl, h1, -⟩
    · exact h.old i hi
    · exact h1
theorem RemP.collect (ag : List Int) (st : List Bool) (h0 : (0 : Int) ∈ ag) (s : List It) : RemP (collectI ag st s) (fun _ => False) := .none (collect_old ag st h0)

/-! ### each deed keeps what is kept -/
theorem GInv.push (h : GInv s) {n : Int} (hs : s.length < 100) (hn : n ≤ 10) : GInv (s ++ [newI 0 n]) := by
  have hmem : ∀ x, x ∈ s ++ [newI 0 n] → x ∈ s ∨ x = newI 0 n := by intro x hx; simpa using hx
  refine ⟨by simp; omega, fun x hx => ?_, fun x hx k hk => ?_, fun x hx => ?_, fun x hx h2 => ?_⟩
  · rcases hmem x hx with h1 | rfl
    · exact h.long x h1
    · simp [newI]; omega
  · rcases hmem x hx with h1 | rfl
    · rcases h.refs x h1 k hk with e | ⟨m, e, e2, e3⟩
      · exact .inl e
      · exact .inr ⟨m, e, by simp; omega, by rw [stAt_push s _ e2]; exact e3⟩
    · exact .inl (newI_has hk)
  · rcases hmem x hx with h1 | rfl
    · exact h.sts x h1
    · left; rfl
  · rcases hmem x hx with h1 | rfl
    · exact h.gone x h1 h2
    · simp [newI] at h2
theorem GInv.hold_ (h : GInv s) {a : Nat} {b : Bool} (ha : stAt s a ≠ some 2) : GInv (s.modify a (It.sethl b)) := by
  refine ⟨by simpa using h.small, fun x' hx => ?_, fun x' hx k hk => ?_, fun x' hx => ?_, fun x' hx h2 => ?_⟩
  · obtain ⟨i, x, h1, -, rfl⟩ := modify_mem hx
    have := h.long x (List.mem_of_getElem? h1)
    split <;> exact this
  · obtain ⟨i, x, h1, -, rfl⟩ := modify_mem hx
    have := h.refs x (List.mem_of_getElem? h1) k (by split at hk <;> exact hk)
    rcases this with e | ⟨m, e, e2, e3⟩
    · exact .inl e
    · exact .inr ⟨m, e, by simpa using e2, by rw [stAt_hl]; exact e3⟩
  · obtain ⟨i, x, h1, -, rfl⟩ := modify_mem hx
    have := h.sts x (List.mem_of_getElem? h1)
    split <;> exact this
  · obtain ⟨i, x, h1, -, rfl⟩ := modify_mem hx
    have h2' : x.st = 2 := by split at h2 <;> exact h2
    have hg := h.gone x (List.mem_of_getElem? h1) h2'
    split
    · rename_i e
      subst e
      exact absurd (by rw [stAt_get h1, h2']) ha
    · exact hg
theorem GInv.set_ (h : GInv s) {a j : Nat} {v : Int} (ha : stAt s a ≠ some 2) (hv : v = -1 ∨ ∃ m : Nat, v = (m : Int) ∧ m < s.length ∧ stAt s m ≠ some 2) : GInv (s.modify a (It.sethas j v)) := by
  refine ⟨by simpa using h.small, fun x' hx => ?_, fun x' hx k hk => ?_, fun x' hx => ?_, fun x' hx h2 => ?_⟩
  · obtain ⟨i, x, h1, -, rfl⟩ := modify_mem hx
    have := h.long x (List.mem_of_getElem? h1)
    split
    · simpa [It.sethas] using this
    · exact this
  · obtain ⟨i, x, h1, -, rfl⟩ := modify_mem hx
    have hc : k ∈ x.has ∨ k = v := by
      split at hk
      · exact List.mem_or_eq_of_mem_set hk
      · exact .inl hk
    rcases hc with hc | rfl
    · rcases h.refs x (List.mem_of_getElem? h1) k hc with e | ⟨m, e, e2, e3⟩
      · exact .inl e
      · exact .inr ⟨m, e, by simpa using e2, by rw [stAt_has]; exact e3⟩
    · rcases hv with e | ⟨m, e, e2, e3⟩
      · exact .inl e
      · exact .inr ⟨m, e, by simpa using e2, by rw [stAt_has]; exact e3⟩
  · obtain ⟨i, x, h1, -, rfl⟩ := modify_mem hx
    have := h.sts x (List.mem_of_getElem? h1)
    split <;> exact this
  · obtain ⟨i, x, h1, -, rfl⟩ := modify_mem hx
    have h2' : x.st = 2 := by split at h2 <;> exact h2
    have hg := h.gone x (List.mem_of_getElem? h1) h2'
    split
    · rename_i e
      subst e
      exact absurd (by rw [stAt_get h1, h2']) ha
    · exact hg
theorem setE_namedG {s : List It} {d : Dd} (h : setE s d = 0) : namedE s (setL d) = 0 ∧ 0 ≤ d.n ∧ d.n < ((hasAt s d.a).length : Int) := by
  unfold setE at h
  split at h
  · rename_i h1; exact absurd h h1
  · rename_i h1
    split at h
    · cases h
    · exact ⟨by simpa using h1, by omega, by omega⟩
theorem holdE_namedG {s : List It} {d : Dd} (h : holdE s d = 0) : namedE s [d.a] = 0 := by
  unfold holdE at h
  split at h
  · rename_i h1; exact absurd h h1
  · rename_i h1; simpa using h1
theorem setE_factsG {s : List It} {d : Dd} (hg : GInv s) (h : setE s d = 0) : (∃ a : Nat, d.a = (a : Int) ∧ a < s.length ∧ stAt s a ≠ some 2) ∧ (d.b = -1 ∨ ∃ m : Nat, d.b = (m : Int) ∧ m < s.length ∧ stAt s m ≠ some 2) := by
  have hz := namedE_zero (setE_namedG h).1
  constructor
  · obtain ⟨a, ha, hal, har⟩ := hz d.a (by unfold setL; split <;> simp)
    exact ⟨a, ha, hal, (hg.need har).2⟩
  · by_cases e : d.b = -1
    · exact .inl e
    · obtain ⟨b, hb, hbl, hbr⟩ := hz d.b (by unfold setL; rw [if_neg e]; simp)
      exact .inr ⟨b, hb, hbl, (hg.need hbr).2⟩
theorem holdE_factsG {s : List It} {d : Dd} (hg : GInv s) (h : holdE s d = 0) : ∃ a : Nat, d.a = (a : Int) ∧ a < s.length ∧ stAt s a ≠ some 2 := by
  obtain ⟨a, ha, hal, har⟩ := namedE_zero (holdE_namedG h) d.a (by simp)
  exact ⟨a, ha, hal, (hg.need har).2⟩
theorem newE_zeroG {s : List It} {n : Int} (h : newE s n = 0) : 0 ≤ n ∧ n ≤ 10 ∧ s.length < 100 := by
  unfold newE at h
  split at h
  · cases h
  · split at h
    · cases h
    · omega
theorem GInv.room (h : GInv s) (nu : Int) : GInv (roomI nu s) := by
  unfold roomI; split
  · exact h.collect _ _
  · exact h
theorem gens_inv {nu : Int} (h : GInv s) (d : Dd) : GInv (gensI nu s d).2.2 := by
  unfold gensI
  split
  · split
    · exact h
    · rename_i he
      obtain ⟨h1, h2, h3⟩ := newE_zeroG (by simpa using he)
      exact (h.room nu).push (by rw [roomI_length]; exact h3) h2
  split
  · split
    · exact h
    · rename_i he
      obtain ⟨⟨a, ha, -, ha2⟩, hb⟩ := setE_factsG h (by simpa using he)
      unfold setG
      rw [ha, Int.toNat_natCast]
      exact h.set_ ha2 hb
  split
  · split
    · exact h
    · rename_i he
      obtain ⟨a, ha, -, ha2⟩ := holdE_factsG h (by simpa using he)
      unfold holdG
      rw [ha, Int.toNat_natCast]
      exact h.hold_ ha2
  split
  · exact h.collect _ _
  split
  · exact h.collect _ _
  · exact h
end

/-! ### old ones that have young ones -/
def isYg (s : List It) (k : Int) : Bool := decide (0 ≤ k) && decide (stAt s k.toNat = some 0)
def barX (s : List It) (x : It) : Bool := decide (x.st = 1) && x.has.any (isYg s)
def barI (s : List It) : List Int := rising (s.map (barX s))
theorem isYg_iff {s : List It} {k : Int} : isYg s k = true ↔ youngP s k := by
  unfold isYg youngP
  rw [Bool.and_eq_true, decide_eq_true_eq, decide_eq_true_eq]
  constructor
  · rintro ⟨h1, h2⟩; exact ⟨k.toNat, by omega, h2⟩
  · rintro ⟨n, rfl, h2⟩; exact ⟨by omega, by simpa using h2⟩
theorem mem_barI {s : List It} {P : Nat → Prop} (h : RemP s P) (x : Int) : x ∈ barI s ↔ ∃ n : Nat, x = (n : Int) ∧ P n ∧ ∃ y, s[n]? = some y ∧ y.has.any (isYg s) = true := by
  unfold barI
  rw [mem_rising]
  constructor
  · rintro ⟨n, rfl, hn⟩
    rw [List.getElem?_map] at hn
    cases hs : s[n]? with
    | none => rw [hs] at hn; cases hn
    | some y =>
      rw [hs] at hn; injection hn with hn
      unfold barX at hn
      rw [Bool.and_eq_true, decide_eq_true_eq] at hn
      obtain ⟨h1, h2⟩ := hn
      obtain ⟨k, hk, hy⟩ := List.any_eq_true.1 h2
      obtain ⟨m, rfl, hm⟩ := isYg_iff.1 hy
      exact ⟨n, rfl, h.all n m (by rw [stAt_get hs, h1]) ⟨y, hs, hk⟩ hm, y, hs, h2⟩
  · rintro ⟨n, rfl, hP, y, hs, h2⟩
    refine ⟨n, rfl, ?_⟩
    rw [List.getElem?_map, hs]
    have h1 := h.old n hP
    rw [stAt_get hs] at h1
    injection h1 with h1
    simp [barX, h1, h2]

end Go.Proofs.Ytpkccpegdpodoaa

/- gens: a heap's state; New, isYoung. -/
namespace Go.Proofs.Ytpkccpegdpodoaa
open Go.RowKit Go.Maps

attribute [local go_sem ↓] Go.wp_at_zero Go.wp_at_succ

theorem GInv.fine {s : List It} (h : GInv s) : Fine s := ⟨h.small, h.long, fun x hx k hk => (h.refs x hx k hk).imp id (fun ⟨n, e, _⟩ => by omega), h.right, h.rightL⟩

/-- a heap at block p, its map at block b -/
def HpL (w : World) (base : Nat) (F : Nat → Prop) (p : Nat) (nu : Int) (b : Nat) (A : Option Addr) (c : Nat) (s : List It) (l : List ItR) : Prop :=
  Blk w p 204 #[.int .i64 nu, .slice A l.length c, .map (some b)] ∧ Its w base F 206 A c l ∧ F p ∧ base ≤ p ∧ its l = s
def HpA (w : World) (base : Nat) (F : Nat → Prop) (p : Nat) (nu : Int) (b : Nat) (A : Option Addr) (c : Nat) (s : List It) : Prop := ∃ l : List ItR, HpL w base F p nu b A c s l
def HpG (w : World) (base : Nat) (F : Nat → Prop) (p : Nat) (nu : Int) (b : Nat) (s : List It) : Prop := ∃ (A : Option Addr) (c : Nat), HpA w base F p nu b A c s
section
variable {w w' : World} {base p b : Nat} {F G : Nat → Prop} {nu : Int} {s : List It}
theorem HpG.fresh (h : HpG w base F p nu b s) (hb : Below w.heap.size w w') : HpG w' base F p nu b s := by
  obtain ⟨A, c, l, h1, h2, h3, h4, h5⟩ := h
  exact ⟨A, c, l, h1.fresh hb, h2.fresh hb, h3, h4, h5⟩
theorem HpG.touch (h : HpG w base F p nu b s) (ht : Touch G w w') (hd : ∀ g, F g → ¬ G g) : HpG w' base F p nu b s := by
  obtain ⟨A, c, l, h1, h2, h3, h4, h5⟩ := h
  exact ⟨A, c, l, (ht.block p h1.lt (hd p h3)).trans h1, h2.touch ht hd, h3, h4, h5⟩
theorem HpG.drewN (h : HpG w base F p nu b s) (n : Nat) : HpG (w.drewN n) base F p nu b s := by
  obtain ⟨A, c, l, h1, h2, h3, h4, h5⟩ := h
  exact ⟨A, c, l, h1.drewN n, h2.drewN n, h3, h4, h5⟩
theorem HpG.mono (h : HpG w base F p nu b s) (hF : ∀ g, F g → G g) : HpG w base G p nu b s := by
  obtain ⟨A, c, l, h1, h2, h3, h4, h5⟩ := h
  exact ⟨A, c, l, h1, h2.mono hF, hF p h3, h4, h5⟩
theorem HpG.lt (h : HpG w base F p nu b s) : p < w.heap.size ∧ F p ∧ base ≤ p := by
  obtain ⟨A, c, l, h1, h2, h3, h4, h5⟩ := h
  exact ⟨h1.lt, h3, h4⟩
end

/-- a set of numbers at block b, n entries at most -/
def Set_ (w : World) (b n : Nat) (D : DataW Unit) : Prop := w.ownsMap Try.prog 3 (unitElem (H := Unit)) b n D
def inSet (D : DataW Unit) (i : Nat) : Prop := Maps.has D (.int .i64 (i : Int)) = true
def Nums (D : DataW Unit) : Prop := ∀ kl, Maps.has D kl = true → ∃ i : Nat, kl = .int .i64 (i : Int)
theorem keyInt : Keyed Try.prog 3 := int_keyed Try.underlying3
section
variable {w w' : World} {b n : Nat} {D : DataW Unit}
theorem Set_.fresh (h : Set_ w b n D) (hb : Below w.heap.size w w') : Set_ w' b n D := by
  have hlt := h.lt
  obtain ⟨es, clock, hh, r⟩ := h
  exact ⟨es, clock, (hb.block b hlt).trans hh, r⟩
theorem Set_.touch {G : Nat → Prop} (h : Set_ w b n D) (ht : Touch G w w') (hd : ¬ G b) : Set_ w' b n D := by
  have hlt := h.lt
  obtain ⟨es, clock, hh, r⟩ := h
  exact ⟨es, clock, (ht.block b hlt hd).trans hh, r⟩
theorem Set_.drewN (h : Set_ w b n D) (k : Nat) : Set_ (w.drewN k) b n D := h
theorem Set_.lt (h : Set_ w b n D) : b < w.heap.size := World.ownsMap.lt h
theorem Set_.mono (h : Set_ w b n D) {m : Nat} (hm : n ≤ m) : Set_ w b m D := World.ownsMap.mono h hm
theorem Set_.far (h : Set_ w b n D) {p : Addr} (hp : b ≠ p.block) (u : Value) : Set_ (w.setCell p u) b n D := World.ownsMap.setCell h hp u
theorem Set_.own_ne {α : Type} [Flat α] {base : Nat} {T : TypeId} {A : Option Addr} {c : Nat} {l : List α} (h : Set_ w b n D) (ho : Own w base T A c l) : rowOf A ≠ some b := by
  intro e
  obtain ⟨es, clock, hh, -⟩ := h
  rcases ho.2 with ⟨h1, -⟩ | ⟨g', cap, cur, hv, -, hg, -⟩
  · injection h1 with h1; subst h1; cases e
  · injection hv with hv
    subst hv
    have e : some g' = some b := e
    injection e with e
    subst e
    rw [hh] at hg; cases hg
theorem Set_.blk_ne {g : Nat} {t : TypeId} {cs : Array Value} (h : Set_ w b n D) (hg : Blk w g t cs) : g ≠ b := by
  intro e
  obtain ⟨es, clock, hh, -⟩ := h
  subst e
  unfold Blk at hg
  rw [hh] at hg; cases hg
end

/-- the whole: a heap and what it remembers -/
def Gn (w : World) (base : Nat) (F : Nat → Prop) (p : Nat) (nu : Int) (n : Nat) (s : List It) : Prop :=
  ∃ (b : Nat) (D : DataW Unit), HpG w base F p nu b s ∧ Set_ w b n D ∧ F b ∧ base ≤ b ∧ RemP s (inSet D) ∧ Nums D
section
variable {w w' : World} {base p n : Nat} {F G : Nat → Prop} {nu : Int} {s : List It}
theorem Gn.fresh (h : Gn w base F p nu n s) (hb : Below w.heap.size w w') : Gn w' base F p nu n s := by
  obtain ⟨b, D, h1, h2, h3⟩ := h
  exact ⟨b, D, h1.fresh hb, h2.fresh hb, h3⟩
theorem Gn.touch (h : Gn w base F p nu n s) (ht : Touch G w w') (hd : ∀ g, F g → ¬ G g) : Gn w' base F p nu n s := by
  obtain ⟨b, D, h1, h2, h3, h4⟩ := h
  exact ⟨b, D, h1.touch ht hd, h2.touch ht (hd b h3), h3, h4⟩
theorem Gn.drewN (h : Gn w base F p nu n s) (k : Nat) : Gn (w.drewN k) base F p nu n s := by
  obtain ⟨b, D, h1, h2, h3⟩ := h
  exact ⟨b, D, h1.drewN k, h2.drewN k, h3⟩
theorem Gn.mono (h : Gn w base F p nu n s) (hF : ∀ g, F g → G g) : Gn w base G p nu n s := by
  obtain ⟨b, D, h1, h2, h3, h4⟩ := h
  exact ⟨b, D, h1.mono hF, h2, hF b h3, h4⟩
theorem Gn.more (h : Gn w base F p nu n s) {m : Nat} (hm : n ≤ m) : Gn w base F p nu m s := by
  obtain ⟨b, D, h1, h2, h3⟩ := h
  exact ⟨b, D, h1, h2.mono hm, h3⟩
end

theorem not_in_empty (kl : Lit) : Maps.has (.map [] : DataW Unit) kl = false := rfl

set_option maxRecDepth 100000 in
theorem gnew_no (nu : Int) (w : World) (h : nu < 1 ∨ 100 < nu) :
    Calls Try.prog 86 #[.int .i64 nu] w fun e w' => e = .returned (.tuple #[.pointer none, .int .i64 1]) ∧ w = w' := by
  by_cases h1 : nu < 1
  · clear h
    go_enter Try.func86, Try.ntmps86
    go_wp2
    go_ret2
    exact ⟨rfl, rfl⟩
  · have h2 : 100 < nu := by omega
    clear h
    go_enter Try.func86, Try.ntmps86
    go_wp2
    go_ret2
    exact ⟨rfl, rfl⟩
set_option maxRecDepth 100000 in
theorem gnew_yes (nu : Int) (w : World) (h : 1 ≤ nu) (h2 : nu ≤ 100) :
    Calls Try.prog 86 #[.int .i64 nu] w fun e w' => e = .returned (.tuple #[.pointer (some ⟨w.heap.size + 1, 0, none⟩), .int .i64 0]) ∧ Gn w' w.heap.size (fun g => g = w.heap.size ∨ g = w.heap.size + 1) (w.heap.size + 1) nu 0 [] ∧ Below w.heap.size w w' := by
  have hmm := @run_makeMap Try.prog
  go_enter Try.func86, Try.ntmps86
  go_wp2
  go_ret2
  refine ⟨rfl, ⟨w.heap.size, .map [], ⟨none, 0, [], ?_, Its.nil_ _ _ _ _, .inr rfl, by omega, rfl⟩, ?_, .inl rfl, Nat.le_refl _, RemP.start.iff (fun i => ⟨fun h => h.elim, fun h => by unfold inSet at h; rw [not_in_empty] at h; cases h⟩), fun kl h => by rw [not_in_empty] at h; cases h⟩, ((Below.refl _ _).alloc (Nat.le_refl _) _).alloc (by simp) _⟩
  · have := Blk.new (w.alloc (.map #[] 0)) 204 #[.int .i64 nu, .slice none 0 0, .map (some w.heap.size)]
    simpa using this
  · exact (World.ownsMap_made w _ _ _).alloc _

set_option maxHeartbeats 800000 in
set_option maxRecDepth 100000 in
theorem isYoung_any (w : World) (base p b : Nat) (F : Nat → Prop) (nu k : Int) (s : List It) (h : HpG w base F p nu b s) (hk : k < 0 ∨ ∃ m : Nat, k = (m : Int) ∧ m < s.length) (hs : s.length ≤ 1000) :
    Calls Try.prog 161 #[.pointer (some ⟨p, 0, none⟩), .int .i64 k] w fun e w' => e = .returned (.bool (isYg s k)) ∧ w = w' := by
  obtain ⟨A, c, l, h1, h2, h3, h4, h5⟩ := h
  have c1 := h1.cell 1 (v := .slice A l.length c) rfl
  rcases hk with hk | ⟨m, rfl, hm⟩
  · have e0 : isYg s k = false := by unfold isYg; rw [decide_eq_false (by omega)]; rfl
    rw [e0]
    clear h1 h2 h5 e0
    go_enter Try.func161, Try.ntmps161
    go_wp2
    go_ret
    exact ⟨rfl, rfl⟩
  · rw [← h5, its_length] at hm hs
    obtain ⟨x, hx⟩ : ∃ x, l[m]? = some x := ⟨_, List.getElem?_eq_getElem hm⟩
    obtain ⟨g, rfl, hg1, hg2, q0, q1, q2⟩ := h2.cells hx
    have hst : stAt s m = some x.st := by rw [← h5]; exact stAt_get (its_get hx)
    have b0 : (0 : Int) ≤ (m : Int) := by omega
    have b1 : (m : Int) < (l.length : Int) := by omega
    have e0 : isYg s (m : Int) = (x.st == 0) := by
      unfold isYg
      rw [decide_eq_true b0, Int.toNat_natCast, hst]
      by_cases hz : x.st = 0
      · simp [hz]
      · have hz2 : (x.st == 0) = false := by simpa using hz
        rw [hz2, decide_eq_false (by simpa using hz)]; rfl
    rw [e0]
    clear h1 h2 h5 hx q0 q2 hst e0
    go_enter Try.func161, Try.ntmps161
    go_wp2
    go_ret
    exact ⟨rfl, rfl⟩

end Go.Proofs.Ytpkccpegdpodoaa

/- gens: the graph; who are of an age; may things be named? -/
namespace Go.Proofs.Ytpkccpegdpodoaa
open Go.RowKit

attribute [local go_sem ↓] Go.wp_at_zero Go.wp_at_succ

set_option maxHeartbeats 1600000 in
set_option maxRecDepth 100000 in
theorem hgraph_any (w : World) (base p : Nat) (F : Nat → Prop) (nu : Int) (b : Nat) (s : List It) (h : HpG w base F p nu b s) (hs : s.length ≤ 100) (hx : ∀ x ∈ s, x.has.length ≤ 10) (hneg : ∀ x ∈ s, ∀ k ∈ x.has, k = -1 ∨ 0 ≤ k) :
    Calls Try.prog 93 #[.pointer (some ⟨p, 0, none⟩)] w (GrPost s w) := by
  obtain ⟨i0, hi, hz0, hz1, hz2⟩ := info_parts infoInt
  obtain ⟨j0, hj, hy0, hy1, hy2⟩ := info_parts infoIntsG
  obtain ⟨A, c, l, h1, h2, h3, h4, h5⟩ := h
  have hl : s.length = l.length := by rw [← h5, its_length]
  obtain ⟨N, hN⟩ : ∃ N, l.length = N := ⟨_, rfl⟩
  rw [hN] at h1 hl
  rw [hl] at hs
  have c2 := h1.cell 1 (v := .slice A N c) rfl
  have hplt := h1.lt
  have H := Lib.hid (And.intro h1 (And.intro h2 (And.intro h5 (And.intro hx (And.intro hl (And.intro hN hneg)))))); clear h1 h2 h5 hl hx hN hneg
  go_enter Try.func93, Try.ntmps93
  go_wp2_with fail
  clear c2
  go_loopg [14] N (fun gk iv wr => ∃ (k m : Nat), k ≤ N ∧ gk = N - k ∧ iv = .int .i64 k ∧ m ≤ k ∧ Hid (GrB wr w.heap.size (w.heap.size + 1) k m s ∧ Blk wr w.heap.size 49 #[.slice none 0 0, .slice none 0 0]) ∧ Below w.heap.size w wr)
  case atStart =>
    refine ⟨0, 0, Nat.zero_le _, rfl, rfl, Nat.le_refl _, ⟨⟨none, none, 0, 0, [], Blk.at_ _ _ _ (by simp), GrS.start _ _, by simp [gHas], rfl, by simp [gRoots, rising, risingFrom]⟩, (Blk.new w _ _).alloc _⟩, ((Below.refl _ _).alloc (Nat.le_refl _) _).alloc (by simp) _⟩
  case round =>
    obtain ⟨k, m, hk, rfl, rfl, hm, hkeep, hbl⟩ := hrel
    obtain ⟨wo, rfl⟩ : ∃ wo : World, wo = wr := ⟨_, rfl⟩
    have hsz := hbl.size
    by_cases hlt : k < N
    · obtain ⟨x, hx⟩ : ∃ x, l[k]? = some x := ⟨_, List.getElem?_eq_getElem (by have := H.out.2.2.2.2.2.1; omega)⟩
      have hits := H.out.2.1.fresh hbl
      obtain ⟨g, rfl, hg1, hg2, q0, q1, q2⟩ := hits.cells hx
      obtain ⟨hxo, -, hxi, hxs⟩ := hits.sub k x hx
      obtain ⟨XA, xc, xh, xs, xb⟩ := x
      simp only at q0 q1 q2 hxo hxi hxs
      have hsx : s[k]? = some ⟨xh, xs, xb⟩ := by have := its_get hx; rw [H.out.2.2.1] at this; exact this
      have hx10 : xh.length ≤ 10 := H.out.2.2.2.1 _ (List.mem_of_getElem? hsx)
      have hxn : ∀ k ∈ xh, k = -1 ∨ 0 ≤ k := H.out.2.2.2.2.2.2 _ (List.mem_of_getElem? hsx)
      have b0 : (0 : Int) ≤ (k : Int) := by omega
      have b1 : (k : Int) < (N : Int) := by omega
      have ht1 := gHas_take s k _ hsx
      have ht2 := gRoots_take s k _ hsx
      simp only at ht1 ht2
      obtain ⟨XN, hXN⟩ : ∃ n, xh.length = n := ⟨_, rfl⟩
      rw [hXN] at q0 hx10
      have HX := Lib.hid (And.intro ht1 (And.intro ht2 (And.intro hXN (And.intro hxn (And.intro hxi hkeep.out)))))
      have HO := Lib.hid hxo
      clear ht1 ht2 hxn hxi hxo hsx hx hits hkeep hXN
      go_wp2_with fail
      refine wp_world (fun W => GrB W w.heap.size (w.heap.size + 1) k m s ∧ Blk W w.heap.size 49 #[.slice none 0 0, .slice none 0 0] ∧ Blk W wo.heap.size 206 #[.slice XA XN xc, .int .i64 xs, .bool xb] ∧ Below wo.heap.size wo W ∧ wo.heap.size < W.heap.size) ⟨?_, HX.out.2.2.2.2.2.2.alloc _, Blk.new _ _ _, (Below.refl _ _).alloc (Nat.le_refl _) _, by simp⟩ ?_
      · obtain ⟨HA, RA, hc, rc, hs', d1, d2, d3⟩ := HX.out.2.2.2.2.2.1
        exact ⟨HA, RA, hc, rc, hs', d1.alloc _, d2.alloc _, d3⟩
      rintro W ⟨⟨HA, RA, hc, rc, hs', d1, d2, d3, d4, d5⟩, d6, d7, d8, d9⟩
      have hGX : w.heap.size + 1 ≠ wo.heap.size := fun e => by have := d7; rw [← e] at this; have h0 := d1; unfold Blk at this h0; rw [h0] at this; injection this with this; injection this with _ this _; exact absurd this (by decide)
      have hGW := d1.lt
      have HW := Lib.hid (And.intro d1 (And.intro d2 (And.intro d3 (And.intro d4 (And.intro d5 (And.intro d6 (And.intro d7 (And.intro d8 ((HO.out.fresh d8).at_ HX.out.2.2.2.2.1)))))))))
      clear d1 d2 d3 d4 d5 d6 d7 d8 q0 q1 q2
      go_loopg [6, 22] XN (fun gk lv jv wj => ∃ (j q : Nat) (LA : Option Addr) (lc : Nat), j ≤ XN ∧ gk = XN - j ∧ jv = .int .i64 j ∧ lv = .slice LA q lc ∧ q ≤ j ∧ Hid (Own wj W.heap.size 3 LA lc ((xh.take j).filter fun k => decide (0 ≤ k)) ∧ ((xh.take j).filter fun k => decide (0 ≤ k)).length = q) ∧ Below W.heap.size W wj)
      case atStart => exact ⟨0, 0, none, 0, Nat.zero_le _, rfl, rfl, rfl, Nat.le_refl _, ⟨Own.nil_, rfl⟩, Below.refl _ _⟩
      case round =>
        obtain ⟨j, q, LA, lc, hjl, rfl, rfl, rfl, hq, hkeep, hbj⟩ := hrel
        have hsj := hbj.size
        by_cases hltj : j < XN
        · obtain ⟨b, o, z, rfl, hbB, hz, hzi, q0⟩ := (HW.out.2.2.2.2.2.2.2.2.below hbj).int_ (k := j) (by have := HX.out.2.2.1; omega)
          have hzn := HX.out.2.2.2.1 z (List.mem_of_getElem? hz)
          have hsn := filter_snocM xh (fun k => decide (0 ≤ k)) j z hz
          have c0 : (0 : Int) ≤ (j : Int) := by omega
          have c1 : (j : Int) < (XN : Int) := by omega
          by_cases hz1 : z = -1
          · subst hz1
            rw [if_neg (by simp), List.append_nil] at hsn
            have HS := Lib.hid hsn; clear hsn hz hzn
            go_wp2_with fail
            go_roundg (XN - (j + 1))
            case measure => omega
            case rel => exact ⟨j + 1, q, LA, lc, by omega, rfl, by go_num, rfl, by omega, by unfold Hid; rw [HS.out]; exact hkeep.out, hbj⟩
          · have hz0' : 0 ≤ z := by omega
            rw [if_pos (by simpa using hz0')] at hsn
            have d0 : (z != -1) = true := by simpa using hz1
            have HS := Lib.hid (And.intro hsn hkeep.out); clear hsn hz hzn hz1 d0 hkeep
            go_wp2_with (at_builtin; go_must (refine wpList_app (α := Int) (n := q) (m := 1) (B := wr.heap.size + 1) (r := [z]) rfl (.tmp 28) (.tmp 30) _ rfl W.heap.size 3 i0 _ 8 Try.underlying47 hi hz0 hz1 hz2 rfl (by decide) int_one (by rfl) HS.out.2.2 (HS.out.2.1.alloc _) (by rfl) (At.built wr _ _ [z] rfl (by intro u hu; simp at hu; subst hu; exact hzi)) rfl (by omega) (by simp only [maxLen]; omega) (by simp; omega) ?_); intro A2 c2 w2 hown2 hgr2 hat2; have hb2 : Below W.heap.size W w2 := (hbj.alloc hsj _).grown hgr2 (by simp; omega) (fun g hg => (HS.out.2.1.lt g hg).1); have HO2 := Lib.hid hown2; clear hown2 hgr2 hat2)
            go_roundg (XN - (j + 1))
            case measure => omega
            case rel => exact ⟨j + 1, q + 1, A2, c2, by omega, rfl, by go_num, rfl, by omega, ⟨by rw [HS.out.1]; exact HO2.out, by rw [HS.out.1, List.length_append, HS.out.2.2]; rfl⟩, hb2⟩
        · obtain rfl : j = XN := by omega
          obtain ⟨f1, f2⟩ := hkeep.out
          rw [List.take_of_length_le (by have := HX.out.2.2.1; omega)] at f1 f2
          obtain ⟨y, hy⟩ : ∃ y, (xh.filter fun k => decide (0 ≤ k)) = y := ⟨_, rfl⟩
          rw [hy] at f1 f2
          have hyi : ∀ k ∈ y, I64 k := fun k hk => by rw [← hy] at hk; exact HX.out.2.2.2.2.1 k (List.mem_filter.1 hk).1
          have hbw : Below w.heap.size w wr := hbl.trans ((HW.out.2.2.2.2.2.2.2.1.mono hsz).trans (hbj.mono (by omega)))
          have e1 := HW.out.1.fresh hbj
          have e2 := HW.out.2.1.fresh hbj
          have e6 := HW.out.2.2.2.2.2.1.fresh hbj
          have e7 := HW.out.2.2.2.2.2.2.1.fresh hbj
          have hap : ∀ g, rowOf LA = some g → rowOf RA ≠ some g := fun g hg e => by have h1 := (f1.lt g hg).1; have h2 := (HW.out.2.1.roots.lt g e).2; omega
          have hcs : (#[Value.slice LA q lc] : Array Value).toList = flat [(⟨LA, lc, y⟩ : SlR)] := by simp [flat, Flat.cells, f2]
          have g0 := e1.cell 0 (v := .slice HA k hc) rfl
          have x2 := e7.cell 2 (v := .bool xb) rfl
          have hXlt := e7.lt
          have hGlt := e1.lt
          have ht1 := HX.out.1
          have ht1' : gHas (s.take (k + 1)) = gHas (s.take k) ++ [y] := by rw [HX.out.1, hy]
          have HV := Lib.hid (And.intro e1 (And.intro e2 (And.intro e6 (And.intro e7 (And.intro (f1.base_le (by omega : w.heap.size ≤ W.heap.size)) (And.intro hyi (And.intro hap (And.intro hcs (And.intro ht1' (And.intro HX.out.2.1 (And.intro HW.out.2.2.1 (And.intro HW.out.2.2.2.1 HW.out.2.2.2.2.1))))))))))))
          clear e1 e2 e6 e7 f1 f2 hy hyi hap hcs ht1 ht1' hkeep hbj HW
          go_upto_region 13 with (at_builtin; go_must (refine wpList_app (α := SlR) (n := k) (m := 1) (B := wr.heap.size + 1) (r := [⟨LA, lc, y⟩]) rfl (.tmp 34) (.tmp 36) _ rfl w.heap.size 47 j0 _ 24 Try.underlying46 hj hy0 hy1 hy2 rfl (by decide) slr_one (by rfl) HV.out.2.2.2.2.2.2.2.2.2.2.2.1 (HV.out.2.1.row.alloc _) (by rfl) (At.built wr _ _ [(⟨LA, lc, y⟩ : SlR)] HV.out.2.2.2.2.2.2.2.1 (fun _ _ => trivial)) rfl (by omega) (by simp only [maxLen]; omega) (by simp; omega) ?_); intro A3 c3 w3 ho3 hgr3 hat3; have s3 := hgr3.size; simp only [World.size_alloc] at s3; have n1 := (HV.out.1.alloc (.cells #[.slice LA q lc] 47)).grown hgr3 (fun e => own_ne_ty (HV.out.2.1.row.alloc (.cells #[.slice LA q lc] 47)) (HV.out.1.alloc (.cells #[.slice LA q lc] 47)) (by decide) e); have n3 := (HV.out.2.2.2.1.alloc (.cells #[.slice LA q lc] 47)).grown hgr3 (fun e => own_ne_ty (HV.out.2.1.row.alloc (.cells #[.slice LA q lc] 47)) (HV.out.2.2.2.1.alloc (.cells #[.slice LA q lc] 47)) (by decide) e); have n5 := (HV.out.2.2.1.alloc (.cells #[.slice LA q lc] 47)).grown hgr3 (fun e => own_ne_ty (HV.out.2.1.row.alloc (.cells #[.slice LA q lc] 47)) (HV.out.2.2.1.alloc (.cells #[.slice LA q lc] 47)) (by decide) e); have n6 := (HV.out.2.1.alloc (.cells #[.slice LA q lc] 47)).push ho3 hgr3 (HV.out.2.2.2.2.1.alloc _) HV.out.2.2.2.2.2.1 HV.out.2.2.2.2.2.2.1; have hb3 : Below w.heap.size w w3 := (hbw.alloc (by omega) _).grown hgr3 (by simp; omega) (fun g hg => (HV.out.2.1.row.lt g hg).1); have z0 := n1.frozen 0; have g0' := n1.cell 0 (v := .slice HA k hc) rfl; have g1 := (n1.set_ 0 (.slice A3 (k + 1) c3)).cell 1 (v := .slice RA m rc) rfl; have x2' := (n3.far (p := ⟨w.heap.size + 1, 0, none⟩) (fun e => hGX e.symm) (.slice A3 (k + 1) c3)).cell 2 (v := .bool xb) rfl; have HZ := Lib.hid (And.intro n1 (And.intro n3 (And.intro n5 (And.intro n6 hb3)))); clear n1 n3 n5 n6 hb3 ho3 hgr3 hat3 g0 x2)
          refine wp_world (fun V => Hid (Blk V (w.heap.size + 1) 49 #[.slice A3 (k + 1) c3, .slice RA m rc] ∧ GrS V w.heap.size A3 c3 RA rc (hs' ++ [⟨LA, lc, y⟩]) (gRoots (s.take k)) ∧ Blk V wo.heap.size 206 #[.slice XA j xc, .int .i64 xs, .bool xb] ∧ Blk V w.heap.size 49 #[.slice none 0 0, .slice none 0 0]) ∧ Below w.heap.size w V) ⟨⟨HZ.out.1.set_ 0 _, HZ.out.2.2.2.1.blk HZ.out.1 (by decide) (by decide) _ _, HZ.out.2.1.far (fun e => hGX e.symm) _, HZ.out.2.2.1.far (by simp) _⟩, HZ.out.2.2.2.2.setCell (by simp) _⟩ ?_
          rintro V ⟨hV, hbV⟩
          clear HZ g0' g1 x2' z0
          have hsV := hbV.size
          have hVX := hV.out.2.2.1.lt
          have hVG := hV.out.1.lt
          have g1 := hV.out.1.cell 1 (v := .slice RA m rc) rfl
          have x2 := hV.out.2.2.1.cell 2 (v := .bool xb) rfl
          obtain ⟨-, -, -, -, -, -, -, -, ht1, ht2, hm1, hm2, hm3⟩ := HV.out
          have hhl : (hs' ++ [(⟨LA, lc, y⟩ : SlR)]).length = k + 1 := by rw [List.length_append, hm2]; rfl
          have hhm : (hs' ++ [(⟨LA, lc, y⟩ : SlR)]).map SlR.l = gHas (s.take (k + 1)) := by rw [List.map_append, hm1, ht1]; rfl
          have HR := Lib.hid (And.intro hm3 (And.intro hhl (And.intro hhm ht2))); clear hm1 hm2 hm3 hhl hhm ht1 ht2 HV
          cases xb with
          | false =>
            go_wp2_with fail
            go_roundg (N - (k + 1))
            case measure => omega
            case rel => exact ⟨k + 1, m, by omega, rfl, by go_num, by omega, ⟨⟨A3, RA, c3, rc, _, hV.out.1, by rw [HR.out.2.2.2]; simpa using hV.out.2.1, HR.out.2.2.1, HR.out.2.1, by rw [HR.out.2.2.2]; simpa using HR.out.1⟩, hV.out.2.2.2⟩, hbV⟩
          | true =>
            go_wp2_with (at_builtin; go_must (refine wpList_app (α := Int) (n := m) (m := 1) (B := V.heap.size + 1) (r := [(k : Int)]) rfl (.tmp 42) (.tmp 44) _ rfl w.heap.size 3 i0 _ 8 Try.underlying47 hi hz0 hz1 hz2 rfl (by decide) int_one (by rfl) HR.out.1 (hV.out.2.1.roots.alloc _) (by rfl) (At.built V _ _ [(k : Int)] rfl (by intro z hz; simp at hz; subst hz; exact (by unfold I64; omega : I64 (k : Int)))) rfl (by omega) (by simp only [maxLen]; omega) (by simp; omega) ?_); intro A5 c5 w5 ho5 hgr5 hat5; have p1 := (hV.out.1.alloc (.cells #[.int .i64 (k : Int)] 3)).grown hgr5 (fun e => own_ne_ty (hV.out.2.1.roots.alloc (.cells #[.int .i64 (k : Int)] 3)) (hV.out.1.alloc (.cells #[.int .i64 (k : Int)] 3)) (by decide) e); have p2 := (hV.out.2.2.2.alloc (.cells #[.int .i64 (k : Int)] 3)).grown hgr5 (fun e => own_ne_ty (hV.out.2.1.roots.alloc (.cells #[.int .i64 (k : Int)] 3)) (hV.out.2.2.2.alloc (.cells #[.int .i64 (k : Int)] 3)) (by decide) e); have p3 := (hV.out.2.1.alloc (.cells #[.int .i64 (k : Int)] 3)).root ho5 hgr5 hat5; have p4 : Below w.heap.size w w5 := (hbV.alloc (by omega) _).grown hgr5 (by simp; omega) (fun g hg => (hV.out.2.1.roots.lt g hg).1); have s5 := hgr5.size; have q1 := p1.cell 1 (v := .slice RA m rc) rfl; have z1 := p1.frozen 1; have HP := Lib.hid (And.intro p1 (And.intro p2 (And.intro p3 p4))); clear p1 p2 p3 p4 ho5 hgr5 hat5)
            go_roundg (N - (k + 1))
            case measure => omega
            case rel =>
              refine ⟨k + 1, m + 1, by omega, rfl, by go_num, by omega, ⟨⟨A3, A5, c3, c5, _, HP.out.1.set_ 1 _, ?_, HR.out.2.2.1, HR.out.2.1, by rw [HR.out.2.2.2]; simpa using HR.out.1⟩, HP.out.2.1.far (by simp) _⟩, HP.out.2.2.2.setCell (by simp) _⟩
              rw [HR.out.2.2.2]
              simpa using HP.out.2.2.1.blk HP.out.1 (by decide) (by decide) 1 _
    · obtain rfl : k = N := by omega
      have hkk := hkeep.out
      have HKK := Lib.hid hkk; clear hkk hkeep
      obtain ⟨⟨HA, RA, hc, rc, hs', b1, b2, b3, b4, b5⟩, b6⟩ := HKK.out
      have g0 := b1.cell 0 (v := .slice HA k hc) rfl
      have g1 := b1.cell 1 (v := .slice RA m rc) rfl
      have r0 := b6.cell 0 (v := .slice none 0 0) rfl
      have r1 := b6.cell 1 (v := .slice none 0 0) rfl
      have z0 := b6.frozen 0
      have z1 := b6.frozen 1
      have HB := Lib.hid (And.intro b2 (And.intro b3 (And.intro b4 (And.intro b5 b6)))); clear b1 b2 b3 b4 b5 b6 HKK
      go_wp2_with fail
      refine bodyPost_ret (results_cell1 rfl _ _ w.heap.size _ _ _ rfl ((HB.out.2.2.2.2.set_ 0 (.slice HA k hc)).set_ 1 (.slice RA m rc)) Try.underlying49 rfl (by kernel_rfl)) rfl ?_
      obtain ⟨e1, e2, e3, e4, e5⟩ := HB.out
      have hsl : s.take k = s := List.take_of_length_le (by have := H.out.2.2.2.2.1; omega)
      rw [hsl] at e1 e2 e4
      have e1' : GrS ((wo.setCell ⟨w.heap.size, 0, none⟩ (.slice HA k hc)).setCell ⟨w.heap.size, 1, none⟩ (.slice RA m rc)) w.heap.size HA hc RA rc hs' (gRoots s) := (e1.blk e5 (by decide) (by decide) _ _).blk (e5.set_ 0 _) (by decide) (by decide) _ _
      have e6 := e1'.at_
      rw [e2] at e6
      exact ⟨HA, RA, hc, rc, m, by rw [H.out.2.2.2.2.1]; rfl, e6, e1'.roots, e4, (hbl.setCell (Nat.le_refl _) _).setCell (Nat.le_refl _) _⟩

set_option maxHeartbeats 800000 in
set_option maxRecDepth 100000 in
theorem hare_any (w : World) (base p : Nat) (F : Nat → Prop) (nu v : Int) (b : Nat) (s : List It) (h : HpG w base F p nu b s) (hs : s.length ≤ 100) :
    Calls Try.prog 160 #[.pointer (some ⟨p, 0, none⟩), .int .i64 v] w fun e w' => ∃ A c, e = .returned (.slice A (are s v).length c) ∧ Own w' w.heap.size 3 A c (are s v) ∧ Below w.heap.size w w' := by
  obtain ⟨i0, hi, hz0, hz1, hz2⟩ := info_parts infoInt
  obtain ⟨A, c, l, h1, h2, h3, h4, h5⟩ := h
  have hl : s.length = l.length := by rw [← h5, its_length]
  obtain ⟨N, hN⟩ : ∃ N, l.length = N := ⟨_, rfl⟩
  rw [hN] at h1 hl
  rw [hl] at hs
  have c2 := h1.cell 1 (v := .slice A N c) rfl
  have H := Lib.hid (And.intro h2 (And.intro h5 (And.intro hl hN))); clear h1 h2 h5 hl hN
  go_enter Try.func160, Try.ntmps160
  go_wp2_with fail
  clear c2
  go_loopg [5, 13] N (fun gk ov iv wr => ∃ (k m : Nat) (A1 : Option Addr) (c1 : Nat), k ≤ N ∧ gk = N - k ∧ iv = .int .i64 k ∧ ov = .slice A1 m c1 ∧ m ≤ k ∧ Hid (Own wr w.heap.size 3 A1 c1 (are (s.take k) v) ∧ (are (s.take k) v).length = m) ∧ Below w.heap.size w wr)
  case atStart => exact ⟨0, 0, none, 0, Nat.zero_le _, rfl, rfl, rfl, Nat.le_refl _, ⟨Own.nil_, rfl⟩, Below.refl _ _⟩
  case round =>
    obtain ⟨k, m, A1, c1, hk, rfl, rfl, rfl, hm, hkeep, hbl⟩ := hrel
    have hsz := hbl.size
    by_cases hlt : k < N
    · obtain ⟨x, hx⟩ : ∃ x, l[k]? = some x := ⟨_, List.getElem?_eq_getElem (by have := H.out.2.2.2; omega)⟩
      obtain ⟨g, rfl, hg1, hg2, q0, q1, q2⟩ := (H.out.1.fresh hbl).cells hx
      have b0 : (0 : Int) ≤ (k : Int) := by omega
      have b1 : (k : Int) < (N : Int) := by omega
      have hsx : s[k]? = some x.it := by rw [← H.out.2.1]; exact its_get hx
      have hsn := are_take s v k x.it hsx
      obtain ⟨y, hy⟩ : ∃ y, x.st = y := ⟨_, rfl⟩
      have hy' : x.it.st = y := hy
      rw [hy] at q1
      rw [hy'] at hsn
      by_cases he : y = v
      · subst he
        rw [if_pos rfl] at hsn
        have HS := Lib.hid (And.intro hsn hkeep.out); clear hsn hx hsx hkeep hy hy'
        go_wp2_with (at_builtin; go_must (refine wpList_app (α := Int) (n := m) (m := 1) (B := wr.heap.size + 1 + 1) (r := [(k : Int)]) rfl (.tmp 22) (.tmp 24) _ rfl w.heap.size 3 i0 _ 8 Try.underlying47 hi hz0 hz1 hz2 rfl (by decide) int_one (by rfl) HS.out.2.2 ((HS.out.2.1.alloc _).alloc _) (by rfl) ?_ rfl (by omega) (by simp only [maxLen]; omega) (by simp; omega) ?_))
        · have := At.built (wr.alloc (.cells #[.slice x.A x.has.length x.c, .int .i64 y, .bool x.held] 206)) #[.int .i64 (k : Int)] 3 [(k : Int)] rfl (by intro z hz; simp at hz; subst hz; exact (by unfold I64; omega : I64 (k : Int)))
          simpa using this
        intro A2 c2 w2 hown2 hgr2 hat2
        have hbl2 : Below w.heap.size w w2 := ((hbl.alloc hsz _).alloc (by simp; omega) _).grown hgr2 (by simp; omega) (fun g hg => (HS.out.2.1.lt g hg).1)
        have HO2 := Lib.hid hown2; clear hown2 hgr2 hat2
        go_wp2_with fail
        go_roundg (N - (k + 1))
        case measure => omega
        case rel => exact ⟨k + 1, m + 1, A2, c2, by omega, rfl, by go_num, rfl, by omega, ⟨by rw [HS.out.1]; exact HO2.out, by rw [HS.out.1, List.length_append, HS.out.2.2]; rfl⟩, hbl2⟩
      · have d0 : (y == v) = false := by simpa using he
        rw [if_neg he, List.append_nil] at hsn
        have HS := Lib.hid (And.intro hsn hkeep.out); clear hsn hx hsx hkeep hy hy' he
        go_wp2_with fail
        go_roundg (N - (k + 1))
        case measure => omega
        case rel => exact ⟨k + 1, m, A1, c1, by omega, rfl, by go_num, rfl, by omega, ⟨by rw [HS.out.1]; exact HS.out.2.1.alloc _, by rw [HS.out.1]; exact HS.out.2.2⟩, hbl.alloc hsz _⟩
    · obtain rfl : N = k := by omega
      have hk2 := hkeep.out
      rw [List.take_of_length_le (by have := H.out.2.2.1; omega)] at hk2
      have HK := Lib.hid hk2; clear hk2 hkeep
      go_wp2_with fail
      go_ret
      exact ⟨A1, c1, by rw [HK.out.2]; rfl, HK.out.1, hbl⟩


set_option maxHeartbeats 1600000 in
set_option maxRecDepth 100000 in
theorem hnamed_any (w : World) (base p B lc n : Nat) (F : Nat → Prop) (nu : Int) (b : Nat) (s : List It) (LA : Option Addr) (ls : List Int) (h : HpG w base F p nu b s) (hf : Fine s) (hl : At w B LA ls) (hB : B ≤ w.heap.size) (hn : ls.length = n) (hn2 : n ≤ 2) :
    Calls Try.prog 188 #[.pointer (some ⟨p, 0, none⟩), .slice LA n lc] w fun e w' => e = .returned (.int .i64 (namedE s ls)) ∧ Below w.heap.size w w' := by
  have HM := Lib.hid h
  obtain ⟨A, c, l, h1, h2, h3, h4, h5⟩ := h
  have hls : s.length = l.length := by rw [← h5, its_length]
  obtain ⟨N, hN⟩ : ∃ N, l.length = N := ⟨_, rfl⟩
  rw [hN] at h1 hls
  have hN100 : N ≤ 100 := by rw [← hls]; exact hf.small
  have c2 := h1.cell 1 (v := .slice A N c) rfl
  have hplt := h1.lt
  have H := Lib.hid (And.intro hl (And.intro hn (And.intro hls hf))); clear hl hn hls hf h1 h2 h3 h5 hN
  go_enter Try.func188, Try.ntmps188
  go_wp2_with fail
  go_loopg [13] n (fun gk iv wr => ∃ (k : Nat), k ≤ n ∧ gk = n - k ∧ iv = .int .i64 k ∧ Hid ((ls.take k).all (inN s.length) = true) ∧ w = wr)
  case atStart => exact ⟨0, Nat.zero_le _, rfl, rfl, by simp [Hid], rfl⟩
  case round =>
    obtain ⟨k, hk, rfl, rfl, hkeep, rfl⟩ := hrel
    by_cases hlt : k < n
    · obtain ⟨b, o, x, rfl, hb, hx, hox, q0⟩ := H.out.1.int_ (k := k) (by have := H.out.2.1; omega)
      have b0 : (0 : Int) ≤ (k : Int) := by omega
      have b1 : (k : Int) < (n : Int) := by omega
      cases hin : inN s.length x with
      | false =>
        have HNM := Lib.hid (namedE_none hx hin)
        by_cases hneg : x < 0
        · have d1 : decide (x < 0) = true := by simpa using hneg
          clear hin hx
          go_wp2_with fail
          go_ret
          exact ⟨by rw [HNM.out]; rfl, Below.refl _ _⟩
        · have hge : (N : Int) ≤ x := by
            have := H.out.2.2.1
            unfold inN at hin
            simp only [Bool.and_eq_false_iff, decide_eq_false_iff_not] at hin
            omega
          clear hin hx
          go_wp2_with fail
          go_ret
          exact ⟨by rw [HNM.out]; rfl, Below.refl _ _⟩
      | true =>
        have hh := inN_iff.1 hin
        have hsn := all_snocM (inN s.length) ls k x hx
        rw [hkeep.out, hin] at hsn
        have hneg : ¬ x < 0 := by omega
        have hge : ¬ (N : Int) ≤ x := by have := H.out.2.2.1; omega
        have HS := Lib.hid hsn; clear hsn hin hx hh
        go_wp2_with fail
        go_roundg (n - (k + 1))
        case measure => omega
        case rel => exact ⟨k + 1, by omega, rfl, by go_num, HS.out, rfl⟩
    · obtain rfl : n = k := by omega
      have hall := hkeep.out
      rw [List.take_of_length_le (by have := H.out.2.1; omega)] at hall
      have HA := Lib.hid hall; clear hall hkeep
      go_wp2_with fail
      refine (hgraph_any w base p F nu b s HM.out H.out.2.2.2.small H.out.2.2.2.long H.out.2.2.2.neg).mono ?_
      rintro e w1 ⟨GA, RA, gc, rc, m, rfl, g1, g2, g3, hb1⟩
      have hs1 := hb1.size
      have hsn : s.length = N := H.out.2.2.1
      rw [hsn]
      have hm100 : m ≤ 100 := by have := gRoots_len s; omega
      have HG := Lib.hid (And.intro g1 (And.intro g2 g3)); clear g1 g2 g3 hsn c2
      go_wp2_with fail
      refine calls_world (fun W => Below w1.heap.size w1 W ∧ w1.heap.size < W.heap.size) ⟨(Below.refl _ _).alloc (Nat.le_refl _) _, by simp⟩ ?_
      rintro W ⟨hW, hsW⟩
      have hgl : (gHas s).length = N := by rw [gHas_length]; exact H.out.2.2.1
      have hsl : (s.map It.held).length ≤ 1000000 := by rw [List.length_map, H.out.2.2.1]; omega
      refine (fromW_any gc rc N m GA RA (gHas s) (gRoots s) W hgl HG.out.2.2 ((HG.out.1.below hW).more (by omega)) ((HG.out.2.1.fresh hW).at_ (rising_I64 _ hsl)) H.out.2.2.2.right H.out.2.2.2.rightL hN100 (by omega) H.out.2.2.2.glen).mono ?_
      rintro e w2 ⟨S, sc, rfl, ho2, hb2⟩
      have hs2 := hb2.size
      have hb : Below w.heap.size w w2 := hb1.trans ((hW.mono hs1).trans (hb2.mono (by omega)))
      have HO := Lib.hid ho2; clear ho2 hgl hsl
      go_wp2_with fail
      go_loopg [37] n (fun gk iv wr => ∃ (k : Nat), k ≤ n ∧ gk = n - k ∧ iv = .int .i64 k ∧ Hid ((ls.take k).all (fun n => (needed s).getD n.toNat false) = true) ∧ w2 = wr)
      case atStart => exact ⟨0, Nat.zero_le _, rfl, rfl, by simp [Hid], rfl⟩
      case round =>
        obtain ⟨k, hk, rfl, rfl, hkeep, rfl⟩ := hrel
        by_cases hlt : k < n
        · obtain ⟨b, o, x, rfl, hbB, hx, hox, q0⟩ := (H.out.1.below (hb.mono hB)).int_ (k := k) (by have := H.out.2.1; omega)
          have hin := inN_iff.1 (List.all_eq_true.1 HA.out x (List.mem_of_getElem? hx))
          obtain ⟨j, rfl⟩ := Int.eq_ofNat_of_zero_le hin.1
          have hj : j < N := by have := H.out.2.2.1; omega
          obtain ⟨v, hv⟩ : ∃ v, (needed s)[j]? = some v := ⟨_, List.getElem?_eq_getElem (by unfold needed; rw [fromL_length, gHas_length]; have := H.out.2.2.1; omega)⟩
          obtain ⟨g, rfl, hgl, hgr⟩ := HO.out.some_ (by rw [fromL_length, gHas_length]; have := H.out.2.2.1; omega)
          have v0 := HO.out.cell_bool hv
          have hgd : (needed s).getD ((j : Int).toNat) false = v := by rw [Int.toNat_natCast, List.getD_eq_getElem?_getD, hv]; rfl
          have b0 : (0 : Int) ≤ (k : Int) := by omega
          have b1 : (k : Int) < (n : Int) := by omega
          have b2 : (0 : Int) ≤ (j : Int) := by omega
          have b3 : (j : Int) < (N : Int) := by omega
          cases v with
          | false =>
            have HNM := Lib.hid (namedE_state HA.out hx hgd)
            clear hin hx hv hgd
            go_wp2_with fail
            go_ret
            exact ⟨by rw [HNM.out]; rfl, hb⟩
          | true =>
            have hsn := all_snocM (fun n => (needed s).getD n.toNat false) ls k _ hx
            rw [hkeep.out, hgd] at hsn
            have HS := Lib.hid hsn; clear hsn hin hx hv hgd
            go_wp2_with fail
            go_roundg (n - (k + 1))
            case measure => omega
            case rel => exact ⟨k + 1, by omega, rfl, by go_num, HS.out, rfl⟩
        · obtain rfl : n = k := by omega
          have hall := hkeep.out
          rw [List.take_of_length_le (by have := H.out.2.1; omega)] at hall
          have HNM := Lib.hid (namedE_ok HA.out hall); clear hall hkeep
          go_wp2_with fail
          go_ret
          exact ⟨by rw [HNM.out]; rfl, hb⟩

end Go.Proofs.Ytpkccpegdpodoaa

/- slices.Contains, slices.ContainsFunc with a method's value; a map is cleared. -/
namespace Go.Proofs.Ytpkccpegdpodoaa
open Go.RowKit Go.Maps Go.ChangeMaps Go.MapKept Go.WideShapes

attribute [local go_sem ↓] Go.wp_at_zero Go.wp_at_succ

theorem any_eqI (l : List Int) (x : Int) : l.any (fun y => y == x) = l.contains x := by
  rw [Bool.eq_iff_iff, List.any_eq_true, List.contains_iff_mem]
  constructor
  · rintro ⟨y, h1, h2⟩
    have : y = x := by simpa using h2
    rw [← this]; exact h1
  · intro h; exact ⟨x, h, by simp⟩

set_option maxHeartbeats 800000 in
set_option maxRecDepth 100000 in
theorem indexInt_any (A : Option Addr) (c B n : Nat) (l : List Int) (x : Int) (w : World) (hn : l.length = n) (h : At w B A l) (hl : n ≤ 9223372036854775807) :
    Calls Try.prog 185 #[.slice A n c, .int .i64 x] w fun e w' => e = .returned (.int .i64 (idxI (fun y => y == x) l)) ∧ w = w' := by
  have H := Lib.hid (And.intro h hn); clear h hn
  go_enter Try.func185, Try.ntmps185
  go_wp2
  go_loopg [8] n (fun gk i wr => ∃ k : Nat, k ≤ n ∧ gk = n - k ∧ i = .int .i64 k ∧ Hid ((l.take k).any (fun y => y == x) = false) ∧ w = wr)
  case atStart => exact ⟨0, Nat.zero_le _, rfl, rfl, by simp [Hid], rfl⟩
  case round =>
    obtain ⟨k, hk, rfl, rfl, hno, rfl⟩ := hrel
    by_cases hlt : k < n
    · obtain ⟨b, o, y, rfl, hb, hx, hox, h0⟩ := H.out.1.int_ (k := k) (by have := H.out.2; omega)
      have hk0 : (0 : Int) ≤ (k : Int) := by omega
      have hk1 : (k : Int) < (n : Int) := by omega
      by_cases hq : x = y
      · subst hq
        have HX := Lib.hid hx; clear hx
        go_wp2
        go_ret
        exact ⟨by rw [idxI_hit (fun y => y == x) l k x HX.out (by simp) hno.out]; rfl, rfl⟩
      · have d0 : (x == y) = false := by simpa using hq
        have d1 : (y == x) = false := by simpa using fun e : y = x => hq e.symm
        have HX := Lib.hid (And.intro hx d1); clear hx d1 hq
        go_wp2
        go_roundg (n - (k + 1))
        case measure => omega
        case rel => exact ⟨k + 1, by omega, rfl, by go_num, by unfold Hid; rw [any_snocI _ _ _ _ HX.out.1, hno.out, HX.out.2]; rfl, rfl⟩
    · go_wp2
      go_ret
      exact ⟨by have h1 := hno.out; rw [List.take_of_length_le (by have := H.out.2; omega)] at h1; unfold idxI; rw [h1]; rfl, rfl⟩

set_option maxRecDepth 100000 in
theorem containsInt_any (A : Option Addr) (c B n : Nat) (l : List Int) (x : Int) (w : World) (hn : l.length = n) (h : At w B A l) (hl : n ≤ 9223372036854775807) :
    Calls Try.prog 153 #[.slice A n c, .int .i64 x] w fun e w' => e = .returned (.bool (l.contains x)) ∧ w = w' := by
  have hc := any_eqI l x
  have hcall := indexInt_any A c B n l x w hn h hl
  obtain ⟨r, hr⟩ : ∃ r, idxI (fun y => y == x) l = r := ⟨_, rfl⟩
  have hge : decide (r ≥ 0) = l.contains x := by
    rw [← hr, ← hc]
    unfold idxI
    cases l.any fun y => y == x <;> simp
  rw [hr] at hcall
  have HC := Lib.hid hcall; clear hcall h hn hc
  have HG := Lib.hid hge; clear hge hr
  go_enter Try.func153, Try.ntmps153
  go_wp2_with fail
  refine HC.out.mono ?_
  rintro e w1 ⟨rfl, rfl⟩
  go_wp2_with fail
  go_ret
  exact ⟨by rw [← HG.out]; rfl, rfl⟩

/-- a method's value as a predicate: it only reads -/
def PredM (P : Program) (g : Nat) (rv : Value) (p : Int → Bool) (l : List Int) (w : World) : Prop :=
  ∀ x : Int, x ∈ l → Calls P g #[rv, iv x] w fun e W' => e = .returned (.bool (p x)) ∧ w = W'

set_option maxHeartbeats 800000 in
set_option maxRecDepth 100000 in
theorem indexFuncM_any (A : Option Addr) (c B g n : Nat) (rv : Value) (p : Int → Bool) (l : List Int) (w : World) (hn : l.length = n) (h : At w B A l) (hl : n ≤ 9223372036854775807)
    (eg : ∀ args w, (callFunc g args).run Try.prog w = .ok (.enter g args) w) (hp : PredM Try.prog g rv p l w) :
    Calls Try.prog 181 #[.slice A n c, .func (.func g) #[rv] #[]] w fun e w' => e = .returned (.int .i64 (idxI p l)) ∧ w = w' := by
  have H := Lib.hid (And.intro h hn); clear h hn
  have HP := Lib.hid hp; clear hp
  have HE := Lib.hid eg
  go_enter Try.func181, Try.ntmps181
  go_wp2
  go_loopg [8] n (fun gk i wr => ∃ k : Nat, k ≤ n ∧ gk = n - k ∧ i = .int .i64 k ∧ Hid ((l.take k).any p = false) ∧ w = wr)
  case atStart => exact ⟨0, Nat.zero_le _, rfl, rfl, by simp [Hid], rfl⟩
  case round =>
    obtain ⟨k, hk, rfl, rfl, hno, rfl⟩ := hrel
    by_cases hlt : k < n
    · obtain ⟨b, o, x, rfl, hb, hx, hox, h0⟩ := H.out.1.int_ (k := k) (by have := H.out.2; omega)
      have hk0 : (0 : Int) ≤ (k : Int) := by omega
      have hk1 : (k : Int) < (n : Int) := by omega
      have hcall := HP.out x (List.mem_of_getElem? hx)
      have HX := Lib.hid hx; clear hx
      cases hq : p x with
      | true =>
        rw [hq] at hcall
        have HC := Lib.hid hcall; clear hcall
        have HQ := Lib.hid hq; clear hq
        go_wp2_with (go_at_fn g; refine Calls.mono HC.out ?_; rintro e w' ⟨rfl, rfl⟩)
        go_ret
        exact ⟨by rw [idxI_hit p l k x HX.out HQ.out hno.out]; rfl, rfl⟩
      | false =>
        rw [hq] at hcall
        have HC := Lib.hid hcall; clear hcall
        have HQ := Lib.hid hq; clear hq
        go_wp2_with (go_at_fn g; refine Calls.mono HC.out ?_; rintro e w' ⟨rfl, rfl⟩)
        go_roundg (n - (k + 1))
        case measure => omega
        case rel => exact ⟨k + 1, by omega, rfl, by go_num, by unfold Hid; rw [any_snocI _ _ _ _ HX.out, hno.out, HQ.out]; rfl, rfl⟩
    · go_wp2
      go_ret
      exact ⟨by have h1 := hno.out; rw [List.take_of_length_le (by have := H.out.2; omega)] at h1; unfold idxI; rw [h1]; rfl, rfl⟩

set_option maxRecDepth 100000 in
theorem containsFuncM_any (A : Option Addr) (c B g n : Nat) (rv : Value) (p : Int → Bool) (l : List Int) (w : World) (hn : l.length = n) (h : At w B A l) (hl : n ≤ 9223372036854775807)
    (eg : ∀ args w, (callFunc g args).run Try.prog w = .ok (.enter g args) w) (hp : PredM Try.prog g rv p l w) :
    Calls Try.prog 150 #[.slice A n c, .func (.func g) #[rv] #[]] w fun e w' => e = .returned (.bool (l.any p)) ∧ w = w' := by
  have hcall := indexFuncM_any A c B g n rv p l w hn h hl eg hp
  obtain ⟨r, hr⟩ : ∃ r, idxI p l = r := ⟨_, rfl⟩
  have hge : decide (r ≥ 0) = l.any p := by
    rw [← hr]
    unfold idxI
    cases l.any p <;> simp
  rw [hr] at hcall
  have HC := Lib.hid hcall; clear hcall h hn hp eg
  have HG := Lib.hid hge; clear hge hr
  go_enter Try.func150, Try.ntmps150
  go_wp2_with fail
  refine HC.out.mono ?_
  rintro e w1 ⟨rfl, rfl⟩
  go_wp2_with fail
  go_ret
  exact ⟨by rw [← HG.out]; rfl, rfl⟩

/-! ### a map is cleared -/
theorem Set_.clear {w : World} {b n : Nat} {D : DataW Unit} (h : Set_ w b n D) (t k e ty : TypeId) (ht : Try.prog.underlying t = some (.map k e)) :
    ∃ w', (Builtin.clear_ #[t] ty #[.map (some b)]).run Try.prog w = .ok (.tuple #[]) w' ∧ Set_ w' b 0 (.map []) ∧ w.grownBy w' (some b) := by
  obtain ⟨es, clock, hb, F, r1, r2⟩ := h
  have hlt : b < w.heap.size := (Array.getElem?_eq_some_iff.1 hb).1
  have hturn : w.mapTurned (setBlock w b (.map #[] clock)) b := ⟨es, clock, #[], clock, hb, rfl⟩
  refine ⟨setBlock w b (.map #[] clock), ?_, ⟨#[], clock, ?_, ?_, by simp, by simp⟩, hturn.grown⟩
  · simp [Builtin.clear_, run_underlying ht, Go.MapKept.run_getObj_map hb, Go.MapKept.run_setObj_map _ hb, Result.andThen]; rfl
  · simp [setBlock, Array.getElem?_setIfInBounds, hlt]
  · exact ⟨by simp, ⟨by simp, by simp, by simp⟩, by simp⟩

theorem wpList_clear_set {w : World} {b n : Nat} {D : DataW Unit} {ops : Array Oper} {rest : List Oper} {o : Oper} {a : Act} {Q : Exit → Act → World → Prop} (hgd : o.guard = none) (x : Operand) (t k e : TypeId)
    (ho : o.op = .call { callee := .builtin .clear, args := #[x], argTypes := #[t] }) (ht : Try.prog.underlying t = some (.map k e)) (h : Set_ w b n D) (hx : a.eval x = .map (some b))
    (hK : ∀ w', Set_ w' b 0 (.map []) → w.grownBy w' (some b) → wpList Try.prog ops Q rest (a.put o.dst (.tuple #[])) w') : wpList Try.prog ops Q (o :: rest) a w := by
  refine wpList_plain hgd fun K hK' => ?_
  obtain ⟨w', hrun, h2, h3⟩ := h.clear t k e o.type ht
  unfold Oper.wp execOp
  simp only [ho, resolve, invoke, builtin, Sem.run_bind, Sem.run_pure, Result.andThen_ok, List.map_toArray, List.map_cons, List.map_nil, hx, hrun]
  exact hK' _ _ (hK w' h2 h3)

end Go.Proofs.Ytpkccpegdpodoaa

/- gens: collect. -/
namespace Go.Proofs.Ytpkccpegdpodoaa
open Go.RowKit Go.Maps

attribute [local go_sem ↓] Go.wp_at_zero Go.wp_at_succ

theorem Own.touch_ {α : Type} [Flat α] {w w' : World} {base : Nat} {T : TypeId} {A : Option Addr} {c : Nat} {l : List α} {F : Nat → Prop} (h : Own w base T A c l) (ht : Touch F w w') (hF : ∀ g, rowOf A = some g → ¬ F g) : Own w' base T A c l :=
  h.block_ fun g hg => ht.block g (h.lt g hg).2 (hF g hg)
theorem modify_same {s : List It} {i : Nat} {f : It → It} {x : It} (h : s[i]? = some x) (hf : f x = x) : s.modify i f = s := by
  apply List.ext_getElem?; intro j
  rw [get_modify]
  split
  · rename_i e; subst e; rw [h]; simp [hf]
  · rfl
theorem modify_as {s : List It} {i : Nat} {f g : It → It} {x : It} (h : s[i]? = some x) (hf : f x = g x) : s.modify i f = s.modify i g := by
  apply List.ext_getElem?; intro j
  rw [get_modify, get_modify]
  split
  · rename_i e; subst e; rw [h]; simp [hf]
  · rfl
theorem clrI_st (ls : List Int) (n j : Nat) (s : List It) (i : Nat) : stAt (clrI ls n j s) i = stAt s i := by
  unfold stAt clrI
  rw [get_modify]
  cases hs : s[i]? with
  | none =>
    have hi : s.length ≤ i := by rw [List.getElem?_eq_none_iff] at hs; exact hs
    have : (clrK ls n s)[i]? = none := List.getElem?_eq_none (by rw [clrK_length]; exact hi)
    rw [this]; split <;> rfl
  | some x =>
    rw [clrK_get ls n s i hs]
    split <;> split <;> simp [clearL, clrH]

theorem Its.turned {w w' : World} {base b n : Nat} {F : Nat → Prop} {T : TypeId} {A : Option Addr} {c : Nat} {l : List ItR} {D : DataW Unit} (h : Its w base F T A c l) (hs : Set_ w b n D) (hg : w.grownBy w' (some b)) : Its w' base F T A c l :=
  ⟨h.row.grown hg (fun g hg' e => hs.own_ne h.row (by rw [hg', ← e])), h.foot, fun i x hx => ⟨(h.sub i x hx).1.grown hg (fun g hg' e => hs.own_ne (h.sub i x hx).1 (by rw [hg', ← e])), (h.sub i x hx).2⟩, h.apart⟩
theorem Blk.turned {w w' : World} {b n g : Nat} {t : TypeId} {cs : Array Value} {D : DataW Unit} (h : Blk w g t cs) (hs : Set_ w b n D) (hg : w.grownBy w' (some b)) : Blk w' g t cs :=
  h.grown hg (fun e => by injection e with e; exact hs.blk_ne h e.symm)

set_option maxHeartbeats 6400000 in
set_option maxRecDepth 100000 in
theorem collect_any (w : World) (base p b n q : Nat) (F : Nat → Prop) (nu : Int) (s : List It) (D : DataW Unit) (SA AA : Option Addr) (sc ac N : Nat) (st : List Bool) (ag : List Int)
    (h : HpG w base F p nu b s) (hm : Set_ w b n D) (hbF : F b) (hi : GInv s) (hsN : s.length = N) (hsl : st.length = N) (hS : ∀ W, Touch F w W → ∃ lb, Own W lb 4 SA sc st) (hA : ∀ W, Touch F w W → ∃ B, At W B AA ag) (hag : ag.length = q) (hq : q ≤ 2) :
    Calls Try.prog 190 #[.pointer (some ⟨p, 0, none⟩), .slice SA N sc, .slice AA q ac] w fun e w' => e = .returned (.int .i64 (outL ag st s).length) ∧ HpG w' base F p nu b (collectI ag st s) ∧ Set_ w' b 0 (.map []) ∧ Touch F w w' := by
  have hN100 : N ≤ 100 := by have := hi.small; omega
  obtain ⟨A, c, hA0⟩ := h
  obtain ⟨l0, m1, m2, m3, m4, m5⟩ := hA0
  have hl0 : l0.length = N := by rw [← its_length, m5, hsN]
  have p0 := m1.cell 1 (v := .slice A l0.length c) rfl
  rw [hl0] at p0
  have H := Lib.hid (And.intro (show HpA w base F p nu b A c s from ⟨l0, m1, m2, m3, m4, m5⟩) (And.intro hm (And.intro hi (And.intro hsN (And.intro hsl (And.intro hS (And.intro hA hag))))))); clear m1 m2 m3 m5 hl0 hm hi hsN hsl hS hA hag
  go_enter Try.func190, Try.ntmps190
  go_wp2_with fail
  clear p0
  go_loopg [7, 18] N (fun gk mv iv wr => ∃ (k m : Nat), k ≤ N ∧ gk = N - k ∧ iv = .int .i64 k ∧ mv = .int .i64 m ∧ m ≤ k ∧ Hid (HpA wr base F p nu b A c (colK ag st k s) ∧ (∃ D', Set_ wr b n D') ∧ (rising ((outB ag st s).take k)).length = m) ∧ Touch F w wr)
  case atStart => exact ⟨0, 0, Nat.zero_le _, rfl, rfl, rfl, Nat.le_refl _, ⟨by rw [colK_zero]; exact H.out.1, ⟨D, H.out.2.1⟩, rfl⟩, Touch.refl _ _⟩
  case round =>
    obtain ⟨k, m, hk, rfl, rfl, rfl, hm, hkeep, hT⟩ := hrel
    obtain ⟨lq, k1, k2, k3, k4, k5⟩ := hkeep.out.1
    obtain ⟨D', hset0⟩ := hkeep.out.2.1
    have hlq : lq.length = N := by rw [← its_length, k5, colK_length, H.out.2.2.2.1]
    have k1' := k1
    rw [hlq] at k1'
    have p1 := k1'.cell 1 (v := .slice A N c) rfl
    have p2 := k1'.cell 2 (v := .map (some b)) rfl
    by_cases hlt : k < N
    · obtain ⟨x, hx⟩ : ∃ x, lq[k]? = some x := ⟨_, List.getElem?_eq_getElem (by omega)⟩
      obtain ⟨g, rfl, hg1, hg2, q0, q1, q2⟩ := k2.cells hx
      obtain ⟨y, hsx⟩ : ∃ y, s[k]? = some y := ⟨_, List.getElem?_eq_getElem (by have := H.out.2.2.2.1; omega)⟩
      have hyx : y = x.it := by
        have h1 := colK_get ag st k s k hsx
        rw [if_neg (by omega), ← k5, its_get hx] at h1
        injection h1 with h1; exact h1.symm
      subst hyx
      have hat : (colK ag st k s)[k]? = some x.it := by rw [← k5]; exact its_get hx
      have hwn := outL_snoc ag st s k hsx
      have hstep := colK_step ag st k s
      obtain ⟨lb, hSo⟩ := H.out.2.2.2.2.2.1 _ hT
      obtain ⟨gs, rfl, _, _⟩ := hSo.some_ (by have := H.out.2.2.2.2.1; omega)
      obtain ⟨sv, hsv⟩ : ∃ sv, st[k]? = some sv := ⟨_, List.getElem?_eq_getElem (by have := H.out.2.2.2.2.1; omega)⟩
      have s0 := hSo.cell_bool hsv
      have hgetD : st.getD k false = sv := by rw [List.getD_eq_getElem?_getD, hsv]; rfl
      have b0 : (0 : Int) ≤ (k : Int) := by omega
      have b1 : (k : Int) < (N : Int) := by omega
      obtain ⟨v, hv⟩ : ∃ v, x.st = v := ⟨_, rfl⟩
      have hv' : x.it.st = v := hv
      rw [hv] at q1
      rw [hv', hgetD] at hwn
      have z0 := k2.row.frozen (g := g) rfl (k * 3)
      have z1 := k2.row.frozen (g := g) rfl (k * 3 + 1)
      have z2 := k2.row.frozen (g := g) rfl (k * 3 + 2)
      have hne : p ≠ g := fun e => own_ne_ty k2.row k1 (by decide) (by rw [← e]; rfl)
      have hnb : b ≠ g := fun e => hset0.own_ne k2.row (by rw [e]; rfl)
      have hgs : gs ≠ g := fun e => own_own_ty k2.row hSo (by decide) g rfl (by rw [← e]; rfl)
      have hgF := k2.foot g rfl
      obtain ⟨lb2, hAt⟩ := H.out.2.2.2.2.2.2.1 _ hT
      have hcall := containsInt_any AA ac lb2 q ag v wr H.out.2.2.2.2.2.2.2 hAt (by omega)
      obtain ⟨r, hr⟩ : ∃ r, ag.contains v = r := ⟨_, rfl⟩
      rw [hr] at hcall hwn
      have hcx : colX ag st k x.it = if r = true then (if sv = true then x.it.setst 1 else ⟨[], 2, false⟩) else x.it := by unfold colX; rw [hv', hr, hgetD]
      cases r with
      | false =>
        have hid := modify_same hat hcx
        rw [hid] at hstep
        have HX := Lib.hid (And.intro hstep (And.intro hwn (And.intro hkeep.out hcall))); clear hstep hwn hkeep k1 k1' k2 k3 k5 hlq hx hsx hv hv' hat hSo hsv hgetD hAt hcall hr hcx hid hset0
        go_wp2_with fail
        refine HX.out.2.2.2.mono ?_
        rintro e w7 ⟨rfl, rfl⟩
        go_wp2_with fail
        go_roundg (N - (k + 1))
        case measure => omega
        case rel => exact ⟨k + 1, m, by omega, rfl, by go_num, rfl, by omega, ⟨by rw [HX.out.1]; exact HX.out.2.2.1.1, HX.out.2.2.1.2.1, by rw [HX.out.2.1, List.length_append, HX.out.2.2.1.2.2]; rfl⟩, hT⟩
      | true =>
        have hst1 := k2.setSt hx (by decide) 1 (by unfold I64; omega)
        have hits := its_set lq k x { x with st := 1 } (It.setst 1) hx rfl
        rw [k5] at hits
        have hbl := k1'.far (p := ⟨g, k * 3 + 1, none⟩) hne (.int .i64 1)
        have hln : (lq.set k { x with st := 1 }).length = N := by rw [List.length_set]; exact hlq
        cases sv with
        | true =>
          have hid := modify_as (g := It.setst 1) hat hcx
          rw [hid] at hstep
          have hs2 := hset0.far (p := ⟨g, k * 3 + 1, none⟩) hnb (.int .i64 1)
          have HX := Lib.hid (And.intro hstep (And.intro hwn (And.intro hkeep.out (And.intro hcall (And.intro hst1 (And.intro hits (And.intro hbl (And.intro hln (And.intro hs2 k3))))))))); clear hstep hwn hkeep k1 k1' k2 k3 k5 hlq hx hsx hv hv' hat hSo hsv hgetD hAt hcall hr hcx hid hset0 hst1 hits hbl hln hs2
          go_wp2_with fail
          refine HX.out.2.2.2.1.mono ?_
          rintro e w7 ⟨rfl, rfl⟩
          go_wp2_with fail
          go_roundg (N - (k + 1))
          case measure => omega
          case rel => exact ⟨k + 1, m, by omega, rfl, by go_num, rfl, by omega, ⟨⟨_, by rw [HX.out.2.2.2.2.2.2.2.1]; exact HX.out.2.2.2.2.2.2.1, HX.out.2.2.2.2.1, HX.out.2.2.2.2.2.2.2.2.2, k4, by rw [HX.out.2.2.2.2.2.1, HX.out.1]⟩, ⟨_, HX.out.2.2.2.2.2.2.2.2.1⟩, by rw [HX.out.2.1, List.length_append, HX.out.2.2.1.2.2]; rfl⟩, hT.setCell hgF _⟩
        | false =>
          have hid := modify_as (g := fun _ => ⟨[], 2, false⟩) hat hcx
          rw [hid] at hstep
          have hs2 := (((hset0.far (p := ⟨g, k * 3 + 1, none⟩) hnb (.int .i64 1)).far (p := ⟨g, k * 3, none⟩) hnb (.slice none 0 0)).far (p := ⟨g, k * 3 + 1, none⟩) hnb (.int .i64 2)).far (p := ⟨g, k * 3 + 2, none⟩) hnb (.bool false)
          have hx1 : (lq.set k { x with st := 1 })[k]? = some { x with st := 1 } := by rw [List.getElem?_set_self (by omega)]
          have hgone := hst1.setGone hx1 (by decide) 2 (by unfold I64; omega)
          rw [List.set_set] at hgone
          have hits2 := its_set lq k x ⟨none, 0, [], 2, false⟩ (fun _ => ⟨[], 2, false⟩) hx rfl
          rw [k5] at hits2
          have hbl2 := ((hbl.far (p := ⟨g, k * 3, none⟩) hne (.slice none 0 0)).far (p := ⟨g, k * 3 + 1, none⟩) hne (.int .i64 2)).far (p := ⟨g, k * 3 + 2, none⟩) hne (.bool false)
          have hln2 : (lq.set k ⟨none, 0, [], 2, false⟩).length = N := by rw [List.length_set]; exact hlq
          have hTn := (((hT.setCell (p := ⟨g, k * 3 + 1, none⟩) hgF (.int .i64 1)).setCell (p := ⟨g, k * 3, none⟩) hgF (.slice none 0 0)).setCell (p := ⟨g, k * 3 + 1, none⟩) hgF (.int .i64 2)).setCell (p := ⟨g, k * 3 + 2, none⟩) hgF (.bool false)
          have HX := Lib.hid (And.intro hstep (And.intro hwn (And.intro hkeep.out (And.intro hcall (And.intro hgone (And.intro hits2 (And.intro hbl2 (And.intro hln2 (And.intro hs2 (And.intro k3 hTn)))))))))); clear hstep hwn hkeep k1 k1' k2 k3 k5 hlq hx hsx hv hv' hat hSo hsv hgetD hAt hcall hr hcx hid hset0 hst1 hits hbl hln hs2 hgone hits2 hbl2 hln2 hx1 hTn
          go_wp2_with fail
          refine HX.out.2.2.2.1.mono ?_
          rintro e w7 ⟨rfl, rfl⟩
          go_wp2_with (at_delete; go_must (refine wpList_delete_own _ rfl _ _ 166 3 rfl 167 keyInt Try.underlying166 _ b n D' rfl HX.out.2.2.2.2.2.2.2.2.1 _ _ rfl (keyOf_int_mk Try.underlying3 (WalkArith.wf_i64 (by omega))) ?_); intro w8 hown8 hturn8; have hgr8 := hturn8.grown; have h8a := Its.turned HX.out.2.2.2.2.1 HX.out.2.2.2.2.2.2.2.2.1 hgr8; have h8b := Blk.turned HX.out.2.2.2.2.2.2.1 HX.out.2.2.2.2.2.2.2.2.1 hgr8; have hT8 := HX.out.2.2.2.2.2.2.2.2.2.2.grown hgr8 (fun g hg => by injection hg with hg; rw [← hg]; exact hbF); have HY := Lib.hid (And.intro h8a (And.intro h8b (And.intro hT8 hown8))); clear h8a h8b hT8 hown8 hturn8 hgr8)
          go_roundg (N - (k + 1))
          case measure => omega
          case rel => exact ⟨k + 1, m + 1, by omega, rfl, by go_num, by go_num, by omega, ⟨⟨_, by rw [HX.out.2.2.2.2.2.2.2.1]; exact HY.out.2.1, HY.out.1, HX.out.2.2.2.2.2.2.2.2.2.1, k4, by rw [HX.out.2.2.2.2.2.1, HX.out.1]⟩, ⟨_, HY.out.2.2.2⟩, by rw [HX.out.2.1, List.length_append, HX.out.2.2.1.2.2]; rfl⟩, HY.out.2.2.1⟩
    · obtain rfl : N = k := by omega
      have hf := hkeep.out
      rw [← H.out.2.2.2.1, colK_all] at hf
      obtain ⟨s1, hs1⟩ : ∃ s1, goneK (outL ag st s) 2 (stayL ag st s) = s1 := ⟨_, rfl⟩
      have hcl := fun {i : Nat} {x : It} (hx : (goneK (outL ag st s) 2 (stayL ag st s))[i]? = some x) {z : Int} (hz : z ∈ x.has) => clear_iff H.out.2.2.1 ag st hx hz
      rw [hs1] at hf hcl
      have hs1l : s1.length = N := by rw [← hs1, goneK_length, stayL_length]; exact H.out.2.2.2.1
      have hs110 : ∀ x ∈ s1, x.has.length ≤ 10 := by
        intro x hx
        obtain ⟨i, hi⟩ := List.mem_iff_getElem?.1 hx
        have hil : i < s.length := by rw [H.out.2.2.2.1, ← hs1l]; exact (List.getElem?_eq_some_iff.1 hi).1
        have h1 := goneK_get (outL ag st s) 2 _ i (stayL_get ag st s i (List.getElem?_eq_getElem hil))
        rw [hs1, hi] at h1
        injection h1 with h1
        rw [h1]
        have := H.out.2.2.1.long _ (List.getElem_mem hil)
        split
        · simp
        · unfold stayX; split <;> exact this
      have hgI : collectI ag st s = s1.map (clearL (outL ag st s)) := by unfold collectI; rw [goneI_eq, hs1]
      have hml : (outL ag st s).length = m := by
        have h1 := hf.2.2
        rw [List.take_of_length_le (by rw [outB_length]; exact Nat.le_refl _)] at h1
        exact h1
      obtain ⟨D1, hD1⟩ := hf.2.1
      obtain ⟨ls, hls⟩ : ∃ ls, outL ag st s = ls := ⟨_, rfl⟩
      rw [hls] at hcl hgI hml
      have H2 := Lib.hid (And.intro hf.1 (And.intro hD1 (And.intro hs110 (And.intro hgI (And.intro hs1l (And.intro (fun (i : Nat) (x : It) (hx : s1[i]? = some x) (z : Int) (hz : z ∈ x.has) => hcl hx hz) (And.intro (hls.symm ▸ hml : (outL ag st s).length = m) H.out.2.2.2.1))))))); clear hf hs1 hs1l hs110 hgI hcl hml hD1 hls k1 k2 k3 k5 k1' hlq hset0 hkeep p2
      go_wp2_with fail
      clear p1
      go_loopg [58] N (fun gk iv wq => ∃ (n' : Nat), n' ≤ N ∧ gk = N - n' ∧ iv = .int .i64 n' ∧ Hid (HpA wq base F p nu b A c (clrK ls n' s1) ∧ Set_ wq b n D1) ∧ Touch F w wq)
      case atStart => exact ⟨0, Nat.zero_le _, rfl, rfl, ⟨by rw [clrK_zero]; exact H2.out.1, H2.out.2.1⟩, hT⟩
      case round =>
        obtain ⟨k, hk, rfl, rfl, hkeep, hT2⟩ := hrel
        by_cases hltn : k < N
        · obtain ⟨x, hsx⟩ : ∃ x, s1[k]? = some x := ⟨_, List.getElem?_eq_getElem (by have := H2.out.2.2.2.2.1; omega)⟩
          obtain ⟨xh, xs, xb⟩ := x
          obtain ⟨l, m1, m2, m3, m4, m5⟩ := hkeep.out.1
          have hlN : l.length = N := by rw [← its_length, m5, clrK_length, H2.out.2.2.2.2.1]
          obtain ⟨y, hy⟩ : ∃ y, l[k]? = some y := ⟨_, List.getElem?_eq_getElem (by omega)⟩
          obtain ⟨g, rfl, hg1, hg2, q0, q1, q2⟩ := m2.cells hy
          have hyx : y.has = xh := by
            have h1 := clrK_get ls k s1 k hsx
            rw [if_neg (by omega), ← m5, its_get hy] at h1
            injection h1 with h1
            exact congrArg It.has h1
          have hx10 : xh.length ≤ 10 := H2.out.2.2.1 _ (List.mem_of_getElem? hsx)
          obtain ⟨xn, hxn⟩ : ∃ n, xh.length = n := ⟨_, rfl⟩
          rw [hyx, hxn] at q0
          rw [hxn] at hx10
          have p0 := m1.cell 1 (v := .slice (some ⟨g, 0, none⟩) l.length c) rfl
          rw [hlN] at p0
          have n0 : (0 : Int) ≤ (k : Int) := by omega
          have n1 : (k : Int) < (N : Int) := by omega
          have hM0 : HpL wr base F p nu b (some ⟨g, 0, none⟩) c (clrI ls k 0 s1) l := ⟨m1, m2, m3, m4, by rw [clrI_zero]; exact m5⟩
          obtain ⟨YA, yc, yh, ys, yb⟩ := y
          simp only at hyx q0 q1 q2
          subst hyx
          have HX := Lib.hid (And.intro hM0 (And.intro hy (And.intro hsx (And.intro hxn hkeep.out.2)))); clear m1 m2 m3 m5 hlN hM0 hy hsx hxn hkeep
          go_wp2_with fail
          clear p0 q0 q1 q2
          go_loopg [70] xn (fun gk jv wj => ∃ (j : Nat), j ≤ xn ∧ gk = xn - j ∧ jv = .int .i64 j ∧ Hid ((∃ l', HpL wj base F p nu b (some ⟨g, 0, none⟩) c (clrI ls k j s1) l' ∧ ∃ x', l'[k]? = some x' ∧ x'.A = YA ∧ x'.c = yc) ∧ Set_ wj b n D1) ∧ Touch F w wj)
          case atStart => exact ⟨0, Nat.zero_le _, rfl, rfl, ⟨⟨l, HX.out.1, _, HX.out.2.1, rfl, rfl⟩, HX.out.2.2.2.2⟩, hT2⟩
          case round =>
            obtain ⟨j, hj, rfl, rfl, hkj, hT3⟩ := hrel
            obtain ⟨⟨l', ⟨k1, k2, k3, k4, k5⟩, x', hx', hxA, hxc⟩, ko⟩ := hkj.out
            have hl' : l'.length = N := by rw [← its_length, k5, clrI_length]; exact H2.out.2.2.2.2.1
            have hxh : x'.has = (clrH ls j ⟨yh, xs, xb⟩).has := by
              have h1 := clrI_get ls k j s1 HX.out.2.2.1
              rw [← k5, its_get hx'] at h1
              injection h1 with h1
              exact congrArg It.has h1
            have hxlen : x'.has.length = xn := by
              rw [hxh]; unfold clrH
              simp only [List.length_append, List.length_map, List.length_take, List.length_drop]
              have := HX.out.2.2.2.1; omega
            by_cases hltj : j < xn
            · obtain ⟨z, hz⟩ : ∃ z, yh[j]? = some z := ⟨_, List.getElem?_eq_getElem (by have := HX.out.2.2.2.1; omega)⟩
              have hxz : x'.has[j]? = some z := by
                rw [hxh]; unfold clrH
                have hl2 : ((yh.take j).map (clr ls)).length = j := by rw [List.length_map, List.length_take]; have := HX.out.2.2.2.1; omega
                simp only
                rw [List.getElem?_append_right (by omega), hl2, Nat.sub_self, List.getElem?_drop, Nat.add_zero]; exact hz
              obtain ⟨g', hgg, -, -, q0, -, -⟩ := k2.cells hx'
              injection hgg with hgg; injection hgg with hgg; subst hgg
              rw [hxA, hxc, hxlen] at q0
              have hsub := k2.sub k x' hx'
              have hown := hsub.1
              rw [hxA, hxc] at hown
              obtain ⟨gx, rfl, hgx1, hgx2⟩ := hown.some_ (by omega)
              have z0 := hown.cell_int hxz
              have zf := hown.frozen (g := gx) rfl j
              have p0 := k1.cell 1 (v := .slice (some ⟨g, 0, none⟩) l'.length c) rfl
              rw [hl'] at p0
              have j0 : (0 : Int) ≤ (j : Int) := by omega
              have j1 : (j : Int) < (xn : Int) := by omega
              have hgxF : F gx := hsub.2.1 gx (by rw [hxA]; rfl)
              have hst := clrI_step ls k j s1 HX.out.2.2.1 hz
              have hset := k2.setHas hx' (by decide) hxA (j := j) (by omega) (-1) (by unfold I64; omega)
              have hits := its_set l' k x' { x' with has := x'.has.set j (-1) } (It.sethas j (-1)) hx' rfl
              rw [k5] at hits
              have hne : p ≠ gx := fun e => own_ne_ty hown k1 (by decide) (by rw [← e]; rfl)
              have hol := ko.far (p := ⟨gx, j, none⟩) (fun e => ko.own_ne hown (by rw [e]; rfl)) (.int .i64 (-1))
              have hbl := k1.far (p := ⟨gx, j, none⟩) hne (.int .i64 (-1))
              have hxn2 : (l'.set k { x' with has := x'.has.set j (-1) })[k]? = some { x' with has := x'.has.set j (-1) } := by rw [List.getElem?_set_self (by omega)]
              have hz3 := H2.out.2.2.2.2.2.1 k _ HX.out.2.2.1 z (List.mem_of_getElem? hz)
              rcases hz3 with ⟨rfl, hzc⟩ | ⟨m', rfl, hm', hz3⟩
              · rw [hzc, if_neg (by simp)] at hst
                have HJ := Lib.hid (And.intro hst hkj.out); clear hst hset hits hbl hol hxn2 k1 k2 k3 k5 hkj hxA hxc ko hx' hxh hxlen hxz hz hsub hown hl' hzc
                go_wp2_with fail
                go_roundg (xn - (j + 1))
                case measure => omega
                case rel => exact ⟨j + 1, by omega, rfl, by go_num, by have h1 := HJ.out.2; have h2 := HJ.out.1; unfold Hid; rw [h2]; exact h1, hT3⟩
              · have hmN : m' < N := by have := H2.out.2.2.2.2.2.2.2; omega
                obtain ⟨xm, hxm⟩ : ∃ xm, l'[m']? = some xm := ⟨_, List.getElem?_eq_getElem (by omega)⟩
                obtain ⟨g'', hgg, -, -, -, r1, -⟩ := k2.cells hxm
                injection hgg with hgg; injection hgg with hgg; subst hgg
                have hsm : stAt s1 m' = some xm.st := by
                  have h1 := stAt_get (its_get hxm)
                  rw [k5, clrI_st] at h1; exact h1
                obtain ⟨vm, hvm⟩ : ∃ vm, xm.st = vm := ⟨_, rfl⟩
                rw [hvm] at r1 hsm
                rw [hsm] at hz3
                have m0 : (0 : Int) ≤ (m' : Int) := by omega
                have m1 : (m' : Int) < (N : Int) := by omega
                by_cases hv2 : vm = 2
                · subst hv2
                  rw [if_pos (hz3.1 rfl)] at hst
                  have HJ := Lib.hid (And.intro hst (And.intro hset (And.intro hits (And.intro hbl (And.intro hol (And.intro hxn2 (And.intro k3 (And.intro hkj.out (And.intro hxA (And.intro hxc hl')))))))))); clear hst hset hits hbl hol hxn2 k1 k2 k3 k5 hkj hxA hxc ko hx' hxh hxlen hxz hz hsub hown hl' hz3 hxm hsm hvm
                  go_wp2_with fail
                  go_roundg (xn - (j + 1))
                  case measure => omega
                  case rel => exact ⟨j + 1, by omega, rfl, by go_num, by have h2 := HJ.out.1; unfold Hid; rw [h2]; exact ⟨⟨_, ⟨by rw [List.length_set]; exact HJ.out.2.2.2.1, HJ.out.2.1, HJ.out.2.2.2.2.2.2.1, k4, HJ.out.2.2.1⟩, _, HJ.out.2.2.2.2.2.1, HJ.out.2.2.2.2.2.2.2.2.1, HJ.out.2.2.2.2.2.2.2.2.2.1⟩, HJ.out.2.2.2.2.1⟩, hT3.setCell hgxF _⟩
                · have hzc : ¬ ls.contains (m' : Int) = true := fun e => hv2 (by have := hz3.2 e; injection this)
                  rw [if_neg hzc] at hst
                  have d0 : (vm == 2) = false := by simpa using hv2
                  have HJ := Lib.hid (And.intro hst hkj.out); clear hst hset hits hbl hol hxn2 k1 k2 k3 k5 hkj hxA hxc ko hx' hxh hxlen hxz hz hsub hown hl' hzc hz3 hxm hsm hvm hv2
                  go_wp2_with fail
                  go_roundg (xn - (j + 1))
                  case measure => omega
                  case rel => exact ⟨j + 1, by omega, rfl, by go_num, by have h1 := HJ.out.2; have h2 := HJ.out.1; unfold Hid; rw [h2]; exact h1, hT3⟩
            · obtain rfl : xn = j := by omega
              have hdone := clrI_done ls k s1 HX.out.2.2.1
              simp only [HX.out.2.2.2.1] at hdone
              rw [hdone] at k5
              have HE := Lib.hid (And.intro (show HpA wr base F p nu b (some ⟨g, 0, none⟩) c (clrK ls (k + 1) s1) from ⟨l', k1, k2, k3, k4, k5⟩) ko); clear k1 k2 k3 k5 ko hx' hxA hxc hxh hxlen hl' hdone hkj
              go_wp2_with fail
              go_roundg (N - (k + 1))
              case measure => omega
              case rel => exact ⟨k + 1, by omega, rfl, by go_num, ⟨HE.out.1, HE.out.2⟩, hT3⟩
        · obtain rfl : N = k := by omega
          have hf := hkeep.out.1
          have hall : clrK ls N s1 = collectI ag st s := by rw [H2.out.2.2.2.1, ← clrK_all, H2.out.2.2.2.2.1]
          rw [hall] at hf
          obtain ⟨l, m1, m2, m3, m4, m5⟩ := hf
          have p2 := m1.cell 2 (v := .map (some b)) rfl
          have HF := Lib.hid (And.intro m1 (And.intro m2 (And.intro m3 (And.intro m5 hkeep.out.2)))); clear m1 m2 m3 m5 hall hkeep
          go_wp2_with (refine wpList_clear_set rfl _ 166 3 167 rfl Try.underlying166 HF.out.2.2.2.2 rfl ?_; intro w8 hown8 hgr8; have h8a := Its.turned HF.out.2.1 HF.out.2.2.2.2 hgr8; have h8b := Blk.turned HF.out.1 HF.out.2.2.2.2 hgr8; have hT8 := hT2.grown hgr8 (fun g hg => by injection hg with hg; rw [← hg]; exact hbF); have HY := Lib.hid (And.intro h8a (And.intro h8b (And.intro hT8 hown8))); clear h8a h8b hT8 hown8 hgr8)
          go_ret
          exact ⟨by rw [H2.out.2.2.2.2.2.2.1]; rfl, ⟨A, c, l, HY.out.2.1, HY.out.1, HF.out.2.2.1, m4, HF.out.2.2.2.1⟩, HY.out.2.2.2, HY.out.2.2.1⟩

end Go.Proofs.Ytpkccpegdpodoaa

/- gens: major. -/
namespace Go.Proofs.Ytpkccpegdpodoaa
open Go.RowKit Go.Maps

attribute [local go_sem ↓] Go.wp_at_zero Go.wp_at_succ

/-- a literal's new block is a row of the call's own -/
theorem own_built {α : Type} [Flat α] (w : World) (cs : Array Value) (e : TypeId) (l : List α) (n : Nat) (hcs : cs.toList = flat l) (hn : l.length = n) (hm : n ≤ maxLen) : Own (w.alloc (.cells cs e)) w.heap.size e (some ⟨w.heap.size, 0, none⟩) n l := by
  subst hn
  have hsz : cs.size = l.length * Flat.sz α := by rw [← Array.length_toList, hcs, flat_length]
  exact ⟨flat_length l, .inr ⟨w.heap.size, l.length, cs, rfl, Nat.le_refl _, heap_alloc_new w _, Nat.le_refl _, hm, hsz, by rw [hcs, ← flat_length l, List.take_length]⟩⟩
theorem Gn.ofCollect {w : World} {base p b : Nat} {F : Nat → Prop} {nu : Int} {s : List It} {ag : List Int} {st : List Bool} (h : HpG w base F p nu b (collectI ag st s)) (hs : Set_ w b 0 (.map [])) (hb : F b) (hbb : base ≤ b) (h0 : (0 : Int) ∈ ag) : Gn w base F p nu 0 (collectI ag st s) :=
  ⟨b, _, h, hs, hb, hbb, (RemP.collect ag st h0 s).iff (fun i => ⟨fun h => h.elim, fun h => by unfold inSet at h; rw [not_in_empty] at h; cases h⟩), fun kl h => by rw [not_in_empty] at h; cases h⟩

set_option maxHeartbeats 1600000 in
set_option maxRecDepth 100000 in
theorem major_any (w : World) (base p n : Nat) (F : Nat → Prop) (nu : Int) (s : List It) (h : Gn w base F p nu n s) (hi : GInv s) (hF : ∀ g, F g → g < w.heap.size) :
    Calls Try.prog 158 #[.pointer (some ⟨p, 0, none⟩)] w fun e w' => e = .returned (.int .i64 (majorN s)) ∧ Gn w' base F p nu 0 (majorI s) ∧ Touch F w w' := by
  obtain ⟨b, D, h1, h2, h3, h4, h5, h6⟩ := h
  obtain ⟨N, hN⟩ : ∃ N, s.length = N := ⟨_, rfl⟩
  have hN100 : N ≤ 100 := by have := hi.small; omega
  have H := Lib.hid (And.intro h1 (And.intro h2 (And.intro hi (And.intro hi.fine (And.intro hN hF))))); clear h1 h2 h5 h6 hi hN hF
  go_enter Try.func158, Try.ntmps158
  go_wp2_with fail
  refine (hgraph_any w base p F nu b s H.out.1 H.out.2.2.2.1.small H.out.2.2.2.1.long H.out.2.2.2.1.neg).mono ?_
  rintro e w1 ⟨GA, RA, gc, rc, m, rfl, g1, g2, g3, hb1⟩
  have hs1 := hb1.size
  rw [H.out.2.2.2.2.1]
  have hm100 : m ≤ 100 := by have := gRoots_len s; have := H.out.2.2.2.2.1; omega
  have HG := Lib.hid (And.intro g1 (And.intro g2 g3)); clear g1 g2 g3
  go_wp2_with fail
  refine calls_world (fun W => Below w1.heap.size w1 W ∧ w1.heap.size < W.heap.size) ⟨(Below.refl _ _).alloc (Nat.le_refl _) _, by simp⟩ ?_
  rintro W ⟨hW, hsW⟩
  have hgl : (gHas s).length = N := by rw [gHas_length]; exact H.out.2.2.2.2.1
  have hsl : (s.map It.held).length ≤ 1000000 := by rw [List.length_map, H.out.2.2.2.2.1]; omega
  refine (fromW_any gc rc N m GA RA (gHas s) (gRoots s) W hgl HG.out.2.2 ((HG.out.1.below hW).more (by omega)) ((HG.out.2.1.fresh hW).at_ (rising_I64 _ hsl)) H.out.2.2.2.1.right H.out.2.2.2.1.rightL hN100 (by omega) H.out.2.2.2.1.glen).mono ?_
  rintro e w2 ⟨S, sc, rfl, ho2, hb2⟩
  have hs2 := hb2.size
  have hb : Below w.heap.size w w2 := hb1.trans ((hW.mono hs1).trans (hb2.mono (by omega)))
  have hnl : (needed s).length = N := by unfold needed; rw [fromL_length, gHas_length]; exact H.out.2.2.2.2.1
  have ho2' : Own w2 W.heap.size 4 S sc (needed s) := ho2
  have HO := Lib.hid (And.intro ho2' hnl); clear ho2 ho2' hgl hsl hnl
  go_wp2_with fail
  refine calls_world (fun V => Own V w2.heap.size 3 (some ⟨w2.heap.size, 0, none⟩) 2 [(0 : Int), 1] ∧ Below w2.heap.size w2 V ∧ w2.heap.size < V.heap.size) ⟨own_built w2 _ _ [(0 : Int), 1] 2 rfl rfl (by simp [maxLen]), (Below.refl _ _).alloc (Nat.le_refl _) _, by simp⟩ ?_
  rintro V ⟨hA, hbV, hsV⟩
  refine (collect_any V base p b n 2 F nu s D S (some ⟨w2.heap.size, 0, none⟩) sc 2 N (needed s) [0, 1] ((H.out.1.fresh hb).fresh hbV) ((H.out.2.1.fresh hb).fresh hbV) h3 H.out.2.2.1 H.out.2.2.2.2.1 HO.out.2 ?_ ?_ rfl (Nat.le_refl _)).mono ?_
  · intro U hU
    exact ⟨_, (HO.out.1.fresh hbV).touch_ hU (fun g hg hf => by have h1 := (HO.out.1.lt g hg).1; have h2 := H.out.2.2.2.2.2 g hf; omega)⟩
  · intro U hU
    exact ⟨_, (hA.touch_ hU (fun g hg hf => by injection hg with hg; have h2 := H.out.2.2.2.2.2 g hf; simp only at hg; omega)).at_ (by
      intro z hz; simp at hz
      rcases hz with rfl | rfl
      · exact (by unfold I64; omega : I64 0)
      · exact (by unfold I64; omega : I64 1))⟩
  rintro e w3 ⟨rfl, c1, c2, hT⟩
  have HC := Lib.hid (And.intro c1 (And.intro c2 ((Touch.ofBelow (F := F) (hb.trans (hbV.mono (by omega)))).trans hT))); clear c1 c2 hT
  go_wp2_with fail
  go_ret
  exact ⟨rfl, Gn.ofCollect HC.out.1 HC.out.2.1 h3 h4 (by simp), HC.out.2.2⟩

end Go.Proofs.Ytpkccpegdpodoaa

/- A row of ints cut at its front and appended to: a queue. -/
namespace Go.Proofs.Ytpkccpegdpodoaa
open Go.RowKit

/-- a queue: ints in a row of the call's own, at whatever place of it -/
def Que (w : World) (base : Nat) (A : Option Addr) (c : Nat) (l : List Int) : Prop :=
  (A = none ∧ l = [] ∧ c = 0) ∨ ∃ (g o : Nat) (cur : Array Value), A = some ⟨g, o, none⟩ ∧ base ≤ g ∧ w.heap[g]? = some (.cells cur 3 (0, 0)) ∧ l.length ≤ c ∧ c ≤ maxLen ∧ o + c ≤ cur.size ∧ ∀ (i : Nat) (x : Int), l[i]? = some x → cur[o + i]? = some (.int .i64 x)

section
variable {w w' : World} {base : Nat} {A : Option Addr} {c : Nat} {l : List Int}
theorem Que.nil_ : Que w base none 0 [] := .inl ⟨rfl, rfl, rfl⟩
theorem Que.lt (h : Que w base A c l) : ∀ g, rowOf A = some g → base ≤ g ∧ g < w.heap.size := by
  intro g hg
  rcases h with ⟨rfl, -, -⟩ | ⟨g', o, cur, rfl, hb, hh, -⟩
  · cases hg
  · have : some g' = some g := hg
    injection this with this; subst this
    exact ⟨hb, (Array.getElem?_eq_some_iff.1 hh).1⟩
theorem Que.cap (h : Que w base A c l) : l.length ≤ c ∧ c ≤ maxLen := by
  rcases h with ⟨-, rfl, rfl⟩ | ⟨g', o, cur, rfl, hb, hh, h1, h2, -⟩
  · exact ⟨Nat.le_refl _, Nat.zero_le _⟩
  · exact ⟨h1, h2⟩
theorem Que.block_ (h : Que w base A c l) (hb : ∀ g, rowOf A = some g → w'.heap[g]? = w.heap[g]?) : Que w' base A c l := by
  rcases h with h | ⟨g', o, cur, rfl, h1, hh, r⟩
  · exact .inl h
  · exact .inr ⟨g', o, cur, rfl, h1, (hb g' rfl).trans hh, r⟩
theorem Que.fresh (h : Que w base A c l) (hb : Below w.heap.size w w') : Que w' base A c l := h.block_ fun g hg => hb.block g (h.lt g hg).2
theorem Que.alloc (h : Que w base A c l) (o : Obj) : Que (w.alloc o) base A c l := h.fresh ((Below.refl _ _).alloc (Nat.le_refl _) _)
theorem Que.setCell (h : Que w base A c l) (p : Addr) (u : Value) (hp : rowOf A ≠ some p.block) : Que (w.setCell p u) base A c l := h.block_ fun g hg => Below.heap_setCell _ _ _ _ (fun e => hp (by rw [hg, e]))
theorem Que.drewN (h : Que w base A c l) (n : Nat) : Que (w.drewN n) base A c l := h
theorem Que.touch (h : Que w base A c l) {F : Nat → Prop} (ht : Touch F w w') (hF : ∀ g, rowOf A = some g → ¬ F g) : Que w' base A c l := h.block_ fun g hg => ht.block g (h.lt g hg).2 (hF g hg)
theorem Que.ne_blk (h : Que w base A c l) {g : Nat} {t : TypeId} {cs : Array Value} (hg : Blk w g t cs) (hne : 3 ≠ t) : rowOf A ≠ some g := by
  intro e
  rcases h with ⟨rfl, -, -⟩ | ⟨g', o, cur, rfl, hb, hh, -⟩
  · cases e
  · have : some g' = some g := e
    injection this with this; subst this
    unfold Blk at hg
    rw [hh] at hg; injection hg with hg; injection hg with _ hg _
    exact hne hg
theorem Que.ne_own {α : Type} [Flat α] {base' : Nat} {T : TypeId} {A' : Option Addr} {c' : Nat} {l' : List α} (h : Que w base A c l) (ho : Own w base' T A' c' l') (hne : T ≠ 3) : ∀ g, rowOf A = some g → rowOf A' ≠ some g := by
  intro g e e'
  rcases h with ⟨rfl, -, -⟩ | ⟨g', o, cur, rfl, hb, hh, -⟩
  · cases e
  · have : some g' = some g := e
    injection this with this; subst this
    rcases ho.2 with ⟨h1, -⟩ | ⟨g2, cap, cur2, hv, -, hg, -⟩
    · injection h1 with h1; subst h1; cases e'
    · injection hv with hv; subst hv
      have : some g2 = some g' := e'
      injection this with this; subst this
      rw [hh] at hg; injection hg with hg; injection hg with _ hg _
      exact hne hg.symm
theorem Que.some_ (h : Que w base A c l) (hl : 0 < l.length) : ∃ g o, A = some ⟨g, o, none⟩ ∧ base ≤ g ∧ g < w.heap.size := by
  rcases h with ⟨-, rfl, -⟩ | ⟨g', o, cur, rfl, hb, hh, -⟩
  · simp at hl
  · exact ⟨g', o, rfl, hb, (Array.getElem?_eq_some_iff.1 hh).1⟩
theorem Que.cell {g o : Nat} (h : Que w base (some ⟨g, o, none⟩) c l) {i : Nat} {x : Int} (hx : l[i]? = some x) : w.cell? ⟨g, o + i, none⟩ = some (.int .i64 x) := by
  rcases h with ⟨h, -, -⟩ | ⟨g', o', cur, hA, hb, hh, -, -, -, hc⟩
  · cases h
  · injection hA with hA; injection hA with h1 h2; subst h1 h2
    rw [cell_of_row w g (o + i) cur _ (0, 0) hh]
    exact hc i x hx
/-- cut at its front -/
theorem Que.tail {x : Int} {g o : Nat} (h : Que w base (some ⟨g, o, none⟩) c (x :: l)) : Que w base (if c = 1 then some ⟨g, o, none⟩ else some ⟨g, o + 1, none⟩) (c - 1) l := by
  rcases h with ⟨h, -, -⟩ | ⟨g', o', cur, hA, hb, hh, h1, h2, h3, hc⟩
  · cases h
  · injection hA with hA; injection hA with e1 e2; subst e1 e2
    simp only [List.length_cons] at h1
    by_cases e : c = 1
    · rw [if_pos e]
      have : l = [] := List.eq_nil_of_length_eq_zero (by omega)
      subst this
      exact .inr ⟨g, o, cur, rfl, hb, hh, by simp, by omega, by omega, fun i y hy => by simp at hy⟩
    · rw [if_neg e]
      refine .inr ⟨g, o + 1, cur, rfl, hb, hh, by omega, by omega, by omega, fun i y hy => ?_⟩
      rw [show o + 1 + i = o + (i + 1) by omega]
      exact hc (i + 1) y (by simpa using hy)
end

/-- one more at the end -/
theorem run_que {w : World} {base : Nat} {A : Option Addr} {c n : Nat} {l : List Int} (h : Que w base A c l) (hn : l.length = n) (hbase : base ≤ w.heap.size) (t ty : TypeId) (ht : Try.prog.underlying t = some (.slice 3)) (ad : Addr) (d : Nat) (x : Int) (hx : w.cell? ad = some (.int .i64 x)) (hsm : n + 1 ≤ 1000000) :
    ∃ A' c' w', (Builtin.append_ #[t, t] ty #[.slice A n c, .slice (some ad) 1 d]).run Try.prog w = .ok (.slice A' (n + 1) c') w' ∧ Que w' base A' c' (l ++ [x]) ∧ w.grownBy w' (rowOf A) ∧ (rowOf A' = rowOf A ∨ rowOf A' = some w.heap.size) := by
  subst hn
  obtain ⟨i0, hi, hz0, hz1, hz2⟩ := info_parts infoInt
  have hs : Src Try.prog i0.size t (.slice (some ad) 1 d) 1 [.int .i64 x] w := by
    rw [hz1]
    refine Src.ofSlice w ht ad 1 d [.int .i64 x] rfl (fun j u hu => ?_) (fun u hu => by simp at hu; subst hu; rfl)
    cases j with
    | zero => simp at hu; subst hu; simpa [Addr.add] using hx
    | succ j => simp at hu
  have grow : ∀ (B : Option Addr) (sc : Nat), (Builtin.firstCells i0.size l.length (.slice B l.length sc)).run Try.prog w.drew = .ok (flat l).toArray w.drew → sc < l.length + 1 →
      ∃ A' c' w', (Builtin.append_ #[t, t] ty #[.slice B l.length sc, .slice (some ad) 1 d]).run Try.prog w = .ok (.slice A' (l.length + 1) c') w' ∧ Que w' base A' c' (l ++ [x]) ∧ w.grownBy w' (rowOf B) ∧ (rowOf A' = rowOf B ∨ rowOf A' = some w.heap.size) := by
    intro B sc hold hg
    have hr := run_append_grow_src w t t ty 3 i0 _ ht hi hz0 B l.length sc (flat l) hold (.slice (some ad) 1 d) 1 [.int .i64 x] hs hg (by omega) (growslice_fits hg (by rw [hz2]; omega))
    have hge := grownCap_ge w (l.length + 1) sc 3
    have hm := grownCap_le_maxLen w (l.length + 1) sc 3 (by simp only [maxLen]; omega)
    refine ⟨_, _, _, hr, .inr ⟨w.heap.size, 0, _, rfl, hbase, heap_alloc_new w.drew _, by simpa using hge, hm, ?_, fun i y hy => ?_⟩, ⟨rfl, rfl, rfl, by simp, fun k hk _ => Below.heap_alloc w.drew _ k hk⟩, .inr rfl⟩
    · simp only [Array.size_append, List.size_toArray, size_zeroCells, List.length_append, flat_length]
      have : Flat.sz Int = 1 := rfl
      have h5 : (Value.int IntKind.i64 0).cells.size = 1 := rfl
      rw [this, h5]
      simp
      omega
    · have hfl : flat l ++ [.int .i64 x] = flat (l ++ [x]) := by rw [flat_append]; rfl
      rw [hfl, Nat.zero_add, Array.getElem?_append_left (by
        have := (List.getElem?_eq_some_iff.1 hy).1
        rw [List.size_toArray, flat_length]
        have h1 : Flat.sz Int = 1 := rfl
        rw [h1]; omega)]
      have := flat_get (l ++ [x]) i 0 y hy (by decide)
      have h1 : Flat.sz Int = 1 := rfl
      rw [h1] at this
      simpa [Flat.cells] using this
  rcases h with ⟨rfl, rfl, rfl⟩ | ⟨g, o, cur, rfl, hb, hh, h1, h2, h3, hc⟩
  · exact grow none 0 (run_firstCells_none w.drew _ _ _ _) (by simp)
  · by_cases hroom : l.length + 1 ≤ c
    · have hcell : ∀ j, j < 1 → (w.cell? ⟨g, o + l.length * i0.size + j, none⟩).isSome = true := by
        intro j hj
        rw [hz1, cell_of_row w g _ cur _ (0, 0) hh, Array.getElem?_eq_getElem (by omega)]; rfl
      have hfr : ∀ j, j < 1 → w.frozen? ⟨g, o + l.length * i0.size + j, none⟩ = false := by
        intro j hj
        simp [World.frozen?, hh]
      have hr := run_append_room_src w t t ty 3 i0 ht hi g o l.length c (.slice (some ad) 1 d) 1 [.int .i64 x] hs hroom hcell hfr
      rw [hz1, Nat.mul_one] at hr
      refine ⟨_, _, _, hr, .inr ⟨g, o, cur.setIfInBounds (o + l.length) (.int .i64 x), rfl, hb, ?_, by simpa using hroom, h2, by rw [Array.size_setIfInBounds]; exact h3, fun i y hy => ?_⟩, ?_, .inl rfl⟩
      · simp [World.setCells, World.setCell, Array.getElem?_modify, hh]
      · rw [Array.getElem?_setIfInBounds]
        by_cases e : i < l.length
        · rw [if_neg (by omega)]
          rw [List.getElem?_append_left e] at hy
          exact hc i y hy
        · have hlt := (List.getElem?_eq_some_iff.1 hy).1
          rw [List.length_append, List.length_singleton] at hlt
          obtain rfl : i = l.length := by omega
          rw [if_pos rfl, if_pos (by omega)]
          simp at hy; rw [hy]
      · exact ⟨rfl, rfl, rfl, by simp [World.setCells, World.setCell], fun k _ hk => Below.heap_setCell w ⟨g, o + l.length, none⟩ _ k (fun e => hk (by rw [e]; rfl))⟩
    · refine grow _ c ?_ (by omega)
      refine run_firstCells_some w.drew i0.size l.length ⟨g, o, none⟩ l.length c (flat l) (by rw [flat_length, hz1]; rfl) (fun j u hu => ?_)
      have hjl : j < l.length := by have := (List.getElem?_eq_some_iff.1 hu).1; rw [flat_length] at this; have h1 : Flat.sz Int = 1 := rfl; rw [h1] at this; omega
      have hx2 : l[j]? = some l[j] := List.getElem?_eq_getElem hjl
      have h4 := flat_get l j 0 _ hx2 (by decide)
      have h1 : Flat.sz Int = 1 := rfl
      rw [h1, Nat.mul_one, Nat.add_zero, hu] at h4
      have h5 : u = .int .i64 l[j] := by simpa [Flat.cells] using h4
      rw [h5]
      have hadd : (⟨g, o, none⟩ : Addr).add j = ⟨g, o + j, none⟩ := by unfold Addr.add; split <;> simp_all
      rw [hadd]
      show w.cell? ⟨g, o + j, none⟩ = _
      rw [cell_of_row w g (o + j) cur _ (0, 0) hh]
      exact hc j _ hx2

theorem wpList_que {w : World} {base : Nat} {A : Option Addr} {c n : Nat} {l : List Int} {ops : Array Oper} {rest : List Oper} {o : Oper} {a : Act} {Q : Exit → Act → World → Prop} (hgd : o.guard = none) (s y : Operand) (t : TypeId)
    (ho : o.op = .call { callee := .builtin .append, args := #[s, y], argTypes := #[t, t] }) (ht : Try.prog.underlying t = some (.slice 3)) (h : Que w base A c l) (hn : l.length = n) (hbase : base ≤ w.heap.size) (hs : a.eval s = .slice A n c)
    {ad : Addr} {d : Nat} {x : Int} (hy : a.eval y = .slice (some ad) 1 d) (hx : w.cell? ad = some (.int .i64 x)) (hsm : n + 1 ≤ 1000000)
    (hK : ∀ A' c' w', Que w' base A' c' (l ++ [x]) → w.grownBy w' (rowOf A) → (rowOf A' = rowOf A ∨ rowOf A' = some w.heap.size) → wpList Try.prog ops Q rest (a.put o.dst (.slice A' (n + 1) c')) w') : wpList Try.prog ops Q (o :: rest) a w := by
  refine wpList_plain hgd fun K hK' => ?_
  obtain ⟨A', c', w', hrun, h2, h3, h4⟩ := run_que h hn hbase t o.type ht ad d x hx hsm
  unfold Oper.wp execOp
  simp only [ho, resolve, invoke, builtin, Sem.run_bind, Sem.run_pure, Result.andThen_ok, List.map_toArray, List.map_cons, List.map_nil, hs, hy, hrun]
  exact hK' _ _ (hK A' c' w' h2 h3 h4)

end Go.Proofs.Ytpkccpegdpodoaa

/- gens: minor's closure. -/
namespace Go.Proofs.Ytpkccpegdpodoaa
open Go.RowKit Go.Maps

attribute [local go_sem ↓] Go.wp_at_zero Go.wp_at_succ

def rch1 (s : List It) (a : List Bool × List Int) (n : Int) : List Bool × List Int := if (isYg s n && !a.1.getD n.toNat false) = true then (a.1.set n.toNat true, a.2 ++ [n]) else a
def rchL (s : List It) (l : List Int) (a : List Bool × List Int) : List Bool × List Int := l.foldl (rch1 s) a
theorem rchL_snoc (s : List It) (l : List Int) (a : List Bool × List Int) (k : Nat) (x : Int) (h : l[k]? = some x) : rchL s (l.take (k + 1)) a = rch1 s (rchL s (l.take k) a) x := by
  unfold rchL; rw [List.take_add_one, h]; simp

/-- what minor's closure sees: the heap, who stays, who is to be looked at -/
structure ReSt (w : World) (lb HB SB TB p : Nat) (SA : Option Addr) (sc N : Nat) (TA : Option Addr) (tc m : Nat) (st : List Bool) (todo : List Int) : Prop where
  hb : Blk w HB 132 #[.pointer (some ⟨p, 0, none⟩)]
  sb : Blk w SB 60 #[.slice SA N sc]
  so : Own w lb 4 SA sc st
  sl : st.length = N
  tb : Blk w TB 47 #[.slice TA m tc]
  qu : Que w lb TA tc todo
  tl : todo.length = m
  lo : lb ≤ HB ∧ lb ≤ SB ∧ lb ≤ TB
section
variable {w w' : World} {lb HB SB TB p sc N tc m : Nat} {SA TA : Option Addr} {st : List Bool} {todo : List Int}
theorem ReSt.fresh (h : ReSt w lb HB SB TB p SA sc N TA tc m st todo) (hb : Below w.heap.size w w') : ReSt w' lb HB SB TB p SA sc N TA tc m st todo :=
  ⟨h.hb.fresh hb, h.sb.fresh hb, h.so.fresh hb, h.sl, h.tb.fresh hb, h.qu.fresh hb, h.tl, h.lo⟩
theorem ReSt.alloc (h : ReSt w lb HB SB TB p SA sc N TA tc m st todo) (o : Obj) : ReSt (w.alloc o) lb HB SB TB p SA sc N TA tc m st todo := h.fresh ((Below.refl _ _).alloc (Nat.le_refl _) _)
theorem ReSt.touch (h : ReSt w lb HB SB TB p SA sc N TA tc m st todo) {F : Nat → Prop} (ht : Touch F w w') (hF : ∀ g, F g → g < lb) : ReSt w' lb HB SB TB p SA sc N TA tc m st todo :=
  ⟨(ht.block HB h.hb.lt (fun e => by have := hF _ e; have := h.lo.1; omega)).trans h.hb, (ht.block SB h.sb.lt (fun e => by have := hF _ e; have := h.lo.2.1; omega)).trans h.sb,
   h.so.touch_ ht (fun g hg hf => by have h1 := (h.so.lt g hg).1; have h2 := hF g hf; omega), h.sl, (ht.block TB h.tb.lt (fun e => by have := hF _ e; have := h.lo.2.2; omega)).trans h.tb,
   h.qu.touch ht (fun g hg hf => by have h1 := (h.qu.lt g hg).1; have h2 := hF g hf; omega), h.tl, h.lo⟩
end
theorem blk_ne_ty {w : World} {g g' : Nat} {t t' : TypeId} {cs cs' : Array Value} (h : Blk w g t cs) (h' : Blk w g' t' cs') (hne : t ≠ t') : g ≠ g' := by
  intro e; subst e; unfold Blk at h h'; rw [h] at h'; injection h' with h'; injection h' with _ h' _; exact hne h'
theorem egReach : ∀ args w, (callFunc 189 args).run Try.prog w = .ok (.enter 189 args) w := fun _ _ => by kernel_rfl

set_option maxHeartbeats 3200000 in
set_option maxRecDepth 100000 in
theorem reach_any (w : World) (base p b lb g0 HB SB TB sc N tc m q lc : Nat) (F : Nat → Prop) (nu : Int) (s : List It) (SA TA LA : Option Addr) (st : List Bool) (todo l : List Int)
    (h : HpG w base F p nu b s) (hF : ∀ g, F g → g < lb) (hN : s.length = N) (hN100 : N ≤ 100) (hr : ReSt w lb HB SB TB p SA sc N TA tc m st todo) (hl : l.length = q) (hq : q ≤ 1000) (hm : m ≤ 1000)
    (hL : ∀ W, Touch (fun g => lb ≤ g ∧ g ≠ g0) w W → ∃ B, At W B LA l) (hx : ∀ x ∈ l, x = -1 ∨ ∃ k : Nat, x = (k : Int) ∧ k < N) (hlb : lb ≤ w.heap.size) (hg1 : rowOf SA ≠ some g0) (hg2 : rowOf TA ≠ some g0) (hg3 : SB ≠ g0) (hg4 : TB ≠ g0) (hg5 : g0 ≤ w.heap.size) :
    Calls Try.prog 189 #[.slice LA q lc, .pointer (some ⟨HB, 0, none⟩), .pointer (some ⟨SB, 0, none⟩), .pointer (some ⟨TB, 0, none⟩)] w fun e w' => e = .returned (.tuple #[]) ∧
      (∃ TA' tc' m', ReSt w' lb HB SB TB p SA sc N TA' tc' m' (rchL s l (st, todo)).1 (rchL s l (st, todo)).2 ∧ rowOf TA' ≠ some g0) ∧ Touch (fun g => lb ≤ g ∧ g ≠ g0) w w' := by
  have hGF : ∀ g, F g → ¬ (lb ≤ g ∧ g ≠ g0) := fun g hf he => by have := hF g hf; omega
  have H := Lib.hid (And.intro h (And.intro hGF (And.intro hN (And.intro hr (And.intro hl (And.intro hL (And.intro hx hF))))))); clear h hGF hN hr hl hL hx hF
  go_enter Try.func189, Try.ntmps189
  go_wp2_with fail
  go_loopg [9] q (fun gk iv wr => ∃ (k : Nat) (TA1 : Option Addr) (tc1 m1 : Nat) (st1 : List Bool) (todo1 : List Int), k ≤ q ∧ gk = q - k ∧ iv = .int .i64 k ∧ Hid (ReSt wr lb HB SB TB p SA sc N TA1 tc1 m1 st1 todo1 ∧ rchL s (l.take k) (st, todo) = (st1, todo1) ∧ rowOf TA1 ≠ some g0) ∧ m1 ≤ m + k ∧ Touch (fun g => lb ≤ g ∧ g ≠ g0) w wr)
  case atStart => exact ⟨0, TA, tc, m, st, todo, Nat.zero_le _, rfl, rfl, ⟨H.out.2.2.2.1, rfl, hg2⟩, Nat.le_refl _, Touch.refl _ _⟩
  case round =>
    obtain ⟨k, TA1, tc1, m1, st1, todo1, hk, rfl, rfl, hkeep, hm1, hT⟩ := hrel
    have hsz := hT.size
    by_cases hlt : k < q
    · obtain ⟨B, hAt⟩ := H.out.2.2.2.2.2.1 _ hT
      obtain ⟨bl, o, x, rfl, hbl, hxl, hxi, x0⟩ := hAt.int_ (k := k) (by have := H.out.2.2.2.2.1; omega)
      have hxx := H.out.2.2.2.2.2.2.1 x (List.mem_of_getElem? hxl)
      have hsn := rchL_snoc s l (st, todo) k x hxl
      rw [hkeep.out.2.1] at hsn
      have b0 : (0 : Int) ≤ (k : Int) := by omega
      have b1 : (k : Int) < (q : Int) := by omega
      have h0 := hkeep.out.1.hb.cell 0 (v := .pointer (some ⟨p, 0, none⟩)) rfl
      have hcall := isYoung_any wr base p b F nu x s (H.out.1.touch hT H.out.2.1) (by rcases hxx with rfl | ⟨i, rfl, hi⟩; exact .inl (by omega); exact .inr ⟨i, rfl, by have := H.out.2.2.1; omega⟩) (by have := H.out.2.2.1; omega)
      cases hy : isYg s x with
      | false =>
        rw [hy] at hcall
        have hs1 : rch1 s (st1, todo1) x = (st1, todo1) := by unfold rch1; rw [hy]; rfl
        rw [hs1] at hsn
        have HC := Lib.hid (And.intro hcall (And.intro hsn hkeep.out)); clear hcall hsn hkeep hs1 hy hxl hxx hxi hAt
        go_wp2_with fail
        refine HC.out.1.mono ?_
        rintro e w1 ⟨rfl, rfl⟩
        go_wp2_with fail
        go_roundg (q - (k + 1))
        case measure => omega
        case rel => exact ⟨k + 1, TA1, tc1, m1, st1, todo1, by omega, rfl, by go_num, ⟨HC.out.2.2.1, HC.out.2.1, HC.out.2.2.2.2⟩, by omega, hT⟩
      | true =>
        rw [hy] at hcall
        obtain ⟨i, rfl, hi⟩ : ∃ i : Nat, x = (i : Int) ∧ i < N := by
          rcases hxx with rfl | h1
          · exact absurd hy (by unfold isYg; simp)
          · exact h1
        obtain ⟨u, hu⟩ : ∃ u, st1[i]? = some u := ⟨_, List.getElem?_eq_getElem (by have := hkeep.out.1.sl; omega)⟩
        have hgd : st1.getD i false = u := by rw [List.getD_eq_getElem?_getD, hu]; rfl
        have s0 := hkeep.out.1.sb.cell 0 (v := .slice SA N sc) rfl
        obtain ⟨gS, rfl, hgS1, hgS2⟩ := hkeep.out.1.so.some_ (by have := hkeep.out.1.sl; omega)
        have s1 := hkeep.out.1.so.cell_bool hu
        have i0 : (0 : Int) ≤ (i : Int) := by omega
        have i1 : (i : Int) < (N : Int) := by omega
        cases u with
        | true =>
          have hs1 : rch1 s (st1, todo1) (i : Int) = (st1, todo1) := by unfold rch1; rw [hy, Int.toNat_natCast, hgd]; rfl
          rw [hs1] at hsn
          have HC := Lib.hid (And.intro hcall (And.intro hsn hkeep.out)); clear hcall hsn hkeep hs1 hy hxl hxx hxi hAt hu hgd
          go_wp2_with fail
          refine HC.out.1.mono ?_
          rintro e w1 ⟨rfl, rfl⟩
          go_wp2_with fail
          go_roundg (q - (k + 1))
          case measure => omega
          case rel => exact ⟨k + 1, TA1, tc1, m1, st1, todo1, by omega, rfl, by go_num, ⟨HC.out.2.2.1, HC.out.2.1, HC.out.2.2.2.2⟩, by omega, hT⟩
        | false =>
          have hs1 : rch1 s (st1, todo1) (i : Int) = (st1.set i true, todo1 ++ [(i : Int)]) := by unfold rch1; rw [hy, Int.toNat_natCast, hgd]; rfl
          rw [hs1] at hsn
          obtain ⟨hhb, hsb, hso, hsl, htb, hqu, htl, hlo⟩ := hkeep.out.1
          have z1 := hso.frozen (g := gS) rfl i
          have z2 := htb.frozen 0
          have t0 := htb.cell 0 (v := .slice TA1 m1 tc1) rfl
          have hSb : SB ≠ gS := fun e => own_ne_ty hso hsb (by decide) (by rw [e]; rfl)
          have hTb : TB ≠ gS := fun e => own_ne_ty hso htb (by decide) (by rw [e]; rfl)
          have hHb : HB ≠ gS := fun e => own_ne_ty hso hhb (by decide) (by rw [e]; rfl)
          have hq1 : rowOf TA1 ≠ some gS := fun e => hqu.ne_own hso (by decide) gS e rfl
          have hq2 : rowOf TA1 ≠ some TB := hqu.ne_blk htb (by decide)
          have hq3 : rowOf TA1 ≠ some SB := hqu.ne_blk hsb (by decide)
          have hq4 : rowOf TA1 ≠ some HB := hqu.ne_blk hhb (by decide)
          have hbt : SB ≠ TB := blk_ne_ty hsb htb (by decide)
          have hht : HB ≠ TB := blk_ne_ty hhb htb (by decide)
          have hgS0 : gS ≠ g0 := fun e => hg1 (by rw [e]; rfl)
          have a1 := hhb.far (p := ⟨gS, i, none⟩) hHb (.bool true)
          have a2 := hsb.far (p := ⟨gS, i, none⟩) hSb (.bool true)
          have a3 := hso.set_bool (g := gS) (i := i) true (by omega)
          have a4 := htb.far (p := ⟨gS, i, none⟩) hTb (.bool true)
          have a5 := hqu.setCell ⟨gS, i, none⟩ (.bool true) hq1
          have hHB := hhb.lt
          have hTB := htb.lt
          have hSB := hsb.lt
          have hT1 := hT.setCell (p := ⟨gS, i, none⟩) ⟨hgS1, hgS0⟩ (.bool true)
          have HC := Lib.hid (And.intro hcall (And.intro hsn (And.intro a1 (And.intro a2 (And.intro a3 (And.intro a4 (And.intro a5 (And.intro hsl (And.intro htl (And.intro hlo (And.intro hT1 (And.intro hq2 (And.intro hq3 (And.intro hq4 hkeep.out.2.2)))))))))))))); clear hcall hsn hkeep hs1 hy hxl hxx hxi hAt hu hgd hhb hsb hso hsl htb hqu htl hlo a1 a2 a3 a4 a5 hT1 hq1 hq2 hq3 hq4
          go_wp2_with fail
          refine HC.out.1.mono ?_
          rintro e w1 ⟨rfl, rfl⟩
          go_wp2_with (at_builtin; go_must (refine wpList_que rfl (.tmp 26) (.tmp 28) _ rfl Try.underlying47 (HC.out.2.2.2.2.2.2.1.alloc (.cells #[.int .i64 (i : Int)] 3)) HC.out.2.2.2.2.2.2.2.2.1 (by simp; omega) (by rfl) (ad := ⟨wr.heap.size, 0, none⟩) (d := 1) (x := (i : Int)) (by rfl) (by rw [World.cell?_alloc_at _ _ _ _ (by simp)]; rfl) (by omega) ?_); intro A5 c5 w5 ho5 hgr5 hat5; have d1 := (HC.out.2.2.1.alloc (.cells #[.int .i64 (i : Int)] 3)).grown hgr5 HC.out.2.2.2.2.2.2.2.2.2.2.2.2.2.1; have d2 := (HC.out.2.2.2.1.alloc (.cells #[.int .i64 (i : Int)] 3)).grown hgr5 HC.out.2.2.2.2.2.2.2.2.2.2.2.2.1; have d4 := (HC.out.2.2.2.2.2.1.alloc (.cells #[.int .i64 (i : Int)] 3)).grown hgr5 HC.out.2.2.2.2.2.2.2.2.2.2.2.1; have d3 := (HC.out.2.2.2.2.1.alloc (.cells #[.int .i64 (i : Int)] 3)).grown hgr5 (fun g hg e => HC.out.2.2.2.2.2.2.1.ne_own HC.out.2.2.2.2.1 (by decide) g e hg); have d6 : rowOf A5 ≠ some g0 := (by rcases hat5 with e | e; rw [e]; exact HC.out.2.2.2.2.2.2.2.2.2.2.2.2.2.2; rw [e]; intro e2; injection e2 with e2; simp at e2; omega); have d7 := (HC.out.2.2.2.2.2.2.2.2.2.2.1.alloc (.cells #[.int .i64 (i : Int)] 3)).grown hgr5 (fun g hg => ⟨(HC.out.2.2.2.2.2.2.1.lt g hg).1, fun e => HC.out.2.2.2.2.2.2.2.2.2.2.2.2.2.2 (by rw [hg, e])⟩); have y0 := d4.cell 0 (v := .slice TA1 m1 tc1) rfl; have y1 := d4.frozen 0; have HD := Lib.hid (And.intro d1 (And.intro d2 (And.intro d3 (And.intro d4 (And.intro ho5 (And.intro d6 d7)))))); clear d1 d2 d3 d4 d6 d7 ho5 hgr5 hat5)
          go_roundg (q - (k + 1))
          case measure => omega
          case rel =>
            obtain ⟨d1, d2, d3, d4, d5, d6, d7⟩ := HD.out
            obtain ⟨-, c2, -, -, -, -, -, c8, c9, c10, -⟩ := HC.out
            exact ⟨k + 1, A5, c5, m1 + 1, _, _, by omega, rfl, by go_num, ⟨⟨d1.far hht _, d2.far hbt _, d3.setCell _ _ (fun e => hTb (by injection e with e; exact e.symm)), by rw [List.length_set]; exact c8, d4.set_ 0 _, d5.setCell _ _ (d5.ne_blk d4 (by decide)), by rw [List.length_append, c9]; rfl, c10⟩, c2, d6⟩, by omega, d7.setCell ⟨c10.2.2, hg4⟩ _⟩
    · obtain rfl : q = k := by omega
      have hf := hkeep.out.2.1
      rw [List.take_of_length_le (by have := H.out.2.2.2.2.1; omega)] at hf
      have HE := Lib.hid (And.intro hkeep.out hf); clear hkeep hf
      go_wp2_with fail
      go_end0
      exact ⟨rfl, ⟨TA1, tc1, m1, by rw [HE.out.2]; exact HE.out.1.1, HE.out.1.2.2⟩, hT⟩

end Go.Proofs.Ytpkccpegdpodoaa

/- gens: what minor's closure does to who stays. -/
namespace Go.Proofs.Ytpkccpegdpodoaa

structure MG (s : List It) (E : Nat → Prop) (st : List Bool) (todo : List Int) : Prop where
  len : st.length = s.length
  sound : ∀ n : Nat, st[n]? = some true → Yg s n
  tin : ∀ x ∈ todo, ∃ n : Nat, x = (n : Int) ∧ st[n]? = some true
  pend : ∀ i : Nat, st[i]? = some true → E i ∨ (i : Int) ∈ todo ∨ ∀ k : Nat, edge s i k → stAt s k = some 0 → st[k]? = some true
/-- what a call of the closure brings -/
structure RchOk (s : List It) (l : List Int) (st : List Bool) (todo : List Int) (st' : List Bool) (todo' : List Int) : Prop where
  grows : ∀ n : Nat, st[n]? = some true → st'[n]? = some true
  seen : ∀ k : Nat, (k : Int) ∈ l → stAt s k = some 0 → st'[k]? = some true
  few : todo'.length + unseen st' = todo.length + unseen st
  more : todo.length ≤ todo'.length

section
variable {s : List It} {E : Nat → Prop} {st : List Bool} {todo : List Int}
theorem isYg_nat {k : Nat} : isYg s (k : Int) = true ↔ stAt s k = some 0 := by
  rw [isYg_iff]
  constructor
  · rintro ⟨n, e, h⟩
    obtain rfl : n = k := by omega
    exact h
  · intro h; exact ⟨k, rfl, h⟩
theorem MG.one (h : MG s E st todo) (x : Int) (hx : x = -1 ∨ ∃ k : Nat, x = (k : Int) ∧ k < s.length) (hy : ∀ k : Nat, x = (k : Int) → stAt s k = some 0 → Yg s k) :
    MG s E (rch1 s (st, todo) x).1 (rch1 s (st, todo) x).2 ∧ RchOk s [x] st todo (rch1 s (st, todo) x).1 (rch1 s (st, todo) x).2 := by
  by_cases hc : (isYg s x && !st.getD x.toNat false) = true
  · have hr : rch1 s (st, todo) x = (st.set x.toNat true, todo ++ [x]) := by unfold rch1; exact if_pos hc
    rw [hr]
    rw [Bool.and_eq_true] at hc
    obtain ⟨h1, h2⟩ := hc
    obtain ⟨k, rfl, hst⟩ := isYg_iff.1 h1
    rw [Int.toNat_natCast] at h2 ⊢
    have hk : k < st.length := by rw [h.len]; exact stAt_lt hst
    have hfalse : st[k]? = some false := by
      rw [List.getD_eq_getElem?_getD, List.getElem?_eq_getElem hk] at h2
      rw [List.getElem?_eq_getElem hk]
      simpa using h2
    have grows : ∀ n : Nat, st[n]? = some true → (st.set k true)[n]? = some true := fun n hn => (set_true_get hk).2 (.inr hn)
    refine ⟨⟨by simpa using h.len, fun n hn => ?_, fun x hx => ?_, fun i hi => ?_⟩, grows, fun j hj hj0 => ?_, ?_, by simp⟩
    · rcases (set_true_get hk).1 hn with rfl | hn
      · exact hy _ rfl hst
      · exact h.sound n hn
    · rcases List.mem_append.1 hx with hx | hx
      · obtain ⟨n, e, hn⟩ := h.tin x hx
        exact ⟨n, e, grows n hn⟩
      · simp at hx
        exact ⟨k, hx, (set_true_get hk).2 (.inl rfl)⟩
    · rcases (set_true_get hk).1 hi with rfl | hi
      · exact .inr (.inl (by simp))
      · rcases h.pend i hi with h3 | h3 | h3
        · exact .inl h3
        · exact .inr (.inl (by simp [h3]))
        · exact .inr (.inr fun q h4 h5 => grows q (h3 q h4 h5))
    · simp at hj
      obtain rfl : j = k := by omega
      exact (set_true_get hk).2 (.inl rfl)
    · have := unseen_set hfalse
      simp
      omega
  · have hr : rch1 s (st, todo) x = (st, todo) := by unfold rch1; exact if_neg hc
    rw [hr]
    refine ⟨h, fun _ h => h, fun k hk h0 => ?_, rfl, Nat.le_refl _⟩
    simp only [List.mem_singleton] at hk
    subst hk
    have h1 := isYg_nat.2 h0
    rw [h1, Int.toNat_natCast] at hc
    have hk : k < st.length := by rw [h.len]; exact stAt_lt h0
    rw [List.getElem?_eq_getElem hk]
    rw [List.getD_eq_getElem?_getD, List.getElem?_eq_getElem hk] at hc
    simpa using hc
theorem MG.reach (l : List Int) : ∀ {st : List Bool} {todo : List Int}, MG s E st todo → (∀ x ∈ l, x = -1 ∨ ∃ k : Nat, x = (k : Int) ∧ k < s.length) → (∀ k : Nat, (k : Int) ∈ l → stAt s k = some 0 → Yg s k) →
    MG s E (rchL s l (st, todo)).1 (rchL s l (st, todo)).2 ∧ RchOk s l st todo (rchL s l (st, todo)).1 (rchL s l (st, todo)).2 := by
  induction l with
  | nil => intro st todo h _ _; exact ⟨h, fun _ h => h, fun k hk => by simp at hk, rfl, Nat.le_refl _⟩
  | cons x l ih =>
    intro st todo h hx hy
    obtain ⟨h1, h2⟩ := h.one x (hx x (by simp)) (fun k e h0 => hy k (by simp [e]) h0)
    have hr : rchL s (x :: l) (st, todo) = rchL s l ((rch1 s (st, todo) x).1, (rch1 s (st, todo) x).2) := rfl
    rw [hr]
    obtain ⟨h3, h4⟩ := ih h1 (fun y hy' => hx y (by simp [hy'])) (fun k hk h0 => hy k (by simp [hk]) h0)
    refine ⟨h3, fun n hn => h4.grows n (h2.grows n hn), fun k hk h0 => ?_, h4.few.trans h2.few, Nat.le_trans h2.more h4.more⟩
    rcases List.mem_cons.1 hk with e | hk
    · exact h4.grows k (h2.seen k (by simp [e]) h0)
    · exact h4.seen k hk h0
theorem MG.weak {E' : Nat → Prop} (h : MG s E st todo) (he : ∀ i, E i → E' i ∨ ∀ k : Nat, edge s i k → stAt s k = some 0 → st[k]? = some true) : MG s E' st todo :=
  ⟨h.len, h.sound, h.tin, fun i hi => by
    rcases h.pend i hi with h1 | h1 | h1
    · rcases he i h1 with h2 | h2
      · exact .inl h2
      · exact .inr (.inr h2)
    · exact .inr (.inl h1)
    · exact .inr (.inr h1)⟩
theorem MG.pop {n : Int} (h : MG s (fun _ => False) st (n :: todo)) : MG s (fun i => (i : Int) = n) st todo :=
  ⟨h.len, h.sound, fun x hx => h.tin x (by simp [hx]), fun i hi => by
    rcases h.pend i hi with h1 | h1 | h1
    · exact h1.elim
    · rcases List.mem_cons.1 h1 with e | h1
      · exact .inl e
      · exact .inr (.inl h1)
    · exact .inr (.inr h1)⟩
theorem MG.start (s : List It) : MG s (fun _ => False) (List.replicate s.length false) [] :=
  ⟨by simp, fun n h => by rw [List.getElem?_replicate] at h; split at h <;> simp at h, fun x h => by simp at h, fun i h => by rw [List.getElem?_replicate] at h; split at h <;> simp at h⟩
theorem MG.fin (h : MG s (fun _ => False) st []) (h1 : ∀ k : Nat, stAt s k = some 0 → heldAt s k → st[k]? = some true) (h2 : ∀ i k : Nat, stAt s i = some 1 → edge s i k → stAt s k = some 0 → st[k]? = some true) : st = ygL s :=
  ygL_eq ⟨h.len, h.sound⟩ ⟨h1, fun i k hi he h0 => by
    rcases hi with hi | hi
    · exact h2 i k hi he h0
    · rcases h.pend i hi with h3 | h3 | h3
      · exact h3.elim
      · simp at h3
      · exact h3 k he h0⟩
end

end Go.Proofs.Ytpkccpegdpodoaa

/- gens: a set of numbers is ranged over; minor's first loop. -/
namespace Go.Proofs.Ytpkccpegdpodoaa
open Go.RowKit Go.Maps Go.WideShapes

attribute [local go_sem ↓] Go.wp_at_zero Go.wp_at_succ

/-- a set is ranged over -/
def Rng (w : World) (b r n : Nat) (D : DataW Unit) (left : Lit → Bool) (cnt : Nat) : Prop := w.ranges Try.prog 3 (unitElem (H := Unit)) b r n D left cnt
section
variable {w w' : World} {b r n cnt : Nat} {D : DataW Unit} {left : Lit → Bool}
theorem Rng.owns (h : Rng w b r n D left cnt) : Set_ w b n D := World.ranges.owns h
theorem Rng.lt (h : Rng w b r n D left cnt) : r < w.heap.size := World.ranges.lt h
theorem Rng.blocks (h : Rng w b r n D left cnt) (hb : w'.heap[b]? = w.heap[b]?) (hr : w'.heap[r]? = w.heap[r]?) : Rng w' b r n D left cnt := by
  obtain ⟨es, clock, since, seen, c0, h1, h2, h3, h4, h5, h6⟩ := h
  exact ⟨es, clock, since, seen, c0, hb.trans h1, h2, h3, h4, hr.trans h5, h6⟩
theorem Rng.fresh (h : Rng w b r n D left cnt) (hb : Below w.heap.size w w') : Rng w' b r n D left cnt := h.blocks (hb.block b h.owns.lt) (hb.block r h.lt)
theorem Rng.touch (h : Rng w b r n D left cnt) {G : Nat → Prop} (ht : Touch G w w') (h1 : ¬ G b) (h2 : ¬ G r) : Rng w' b r n D left cnt := h.blocks (ht.block b h.owns.lt h1) (ht.block r h.lt h2)
theorem Rng.notCells (h : Rng w b r n D left cnt) (cs : Array Value) (t : TypeId) (fz : Nat × Nat) : w.heap[r]? ≠ some (.cells cs t fz) := by
  obtain ⟨es, clock, since, seen, c0, h1, h2, h3, h4, h5, h6⟩ := h
  intro e; rw [h5] at e; cases e
theorem Rng.own_ne {α : Type} [Flat α] {base : Nat} {T : TypeId} {A : Option Addr} {c : Nat} {l : List α} (h : Rng w b r n D left cnt) (ho : Own w base T A c l) : rowOf A ≠ some r := by
  intro e
  rcases ho.2 with ⟨h1, -⟩ | ⟨g', cap, cur, hv, -, hg, -⟩
  · injection h1 with h1; subst h1; cases e
  · injection hv with hv
    subst hv
    have e : some g' = some r := e
    injection e with e
    subst e
    exact h.notCells _ _ _ hg
theorem Rng.que_ne {base : Nat} {A : Option Addr} {c : Nat} {l : List Int} (h : Rng w b r n D left cnt) (ho : Que w base A c l) : rowOf A ≠ some r := by
  intro e
  rcases ho with ⟨rfl, -, -⟩ | ⟨g', o, cur, rfl, hb, hh, -⟩
  · cases e
  · have e : some g' = some r := e
    injection e with e
    subst e
    exact h.notCells _ _ _ hh
theorem Rng.blk_ne {g : Nat} {t : TypeId} {cs : Array Value} (h : Rng w b r n D left cnt) (hg : Blk w g t cs) : g ≠ r := by
  intro e; subst e; exact h.notCells _ _ _ hg
end
theorem wpList_range_nums {w : World} {b n : Nat} {D : DataW Unit} {ops : Array Oper} {rest : List Oper} {o : Oper} {a : Act} {Q : Exit → Act → World → Prop} (hg : o.guard = none) (m : Operand) (t e : TypeId) (hop : o.op = Op.range t m) (ht : Try.prog.underlying t = some (.map 3 e))
    (hm : a.eval m = .map (some b)) (hown : Set_ w b n D)
    (hK : ∀ w', Rng w' b w.heap.size n D (Maps.has D) (Maps.size D) → w.grownBy w' none → w'.heap.size = w.heap.size + 1 → wpList Try.prog ops Q rest (a.put o.dst (.pointer (some ⟨w.heap.size, 0, none⟩))) w') :
    wpList Try.prog ops Q (o :: rest) a w :=
  wpList_range_own w hg m t hop 3 e keyInt ht _ b n D hm hown hK
theorem wpList_next_nums {w : World} {b r n cnt : Nat} {D : DataW Unit} {left : Lit → Bool} {ops : Array Oper} {rest : List Oper} {o : Oper} {a : Act} {Q : Exit → Act → World → Prop} (hg : o.guard = none) (it : Operand) (hop : o.op = Op.next it false)
    (hit : a.eval it = .pointer (some ⟨r, 0, none⟩)) (h : Rng w b r n D left cnt)
    (hDone : cnt = 0 → (∀ kl, left kl = false) → wpList Try.prog ops Q rest (a.put o.dst (.tuple #[.bool false])) w)
    (hMore : ∀ (x : Int) (w' : World) (cnt' : Nat), left (.int .i64 x) = true → Maps.has D (.int .i64 x) = true → Rng w' b r n D (fun z => left z && !z.sameKey (.int .i64 x)) cnt' → cnt' < cnt → w.grownBy w' (some r) → w'.heap.size = w.heap.size →
      (Instr.entry (.pointer (some ⟨r, 0, none⟩))).run Try.prog w' = .ok (.tuple #[.int .i64 x, .agg #[]]) w' → wpList Try.prog ops Q rest (a.put o.dst (.tuple #[.bool true, .int .i64 x, .agg #[]])) w') :
    wpList Try.prog ops Q (o :: rest) a w :=
  wpList_next_ranges w hg it hop 3 keyInt _ (Value.int .i64) (fun _ : Unit => Value.agg #[]) (fun key kl hkey => by obtain ⟨x, rfl, _⟩ := Maps.keyOf_int_inv Try.underlying3 hkey; exact ⟨x, rfl⟩) (fun v y hv => ⟨(), (unitElem_inv hv).1⟩)
    b r n D left cnt hit h hDone (fun x c kl y w' cnt' hkey hlk hv hat hrg hlt hgr hsz hen => by
      obtain ⟨x', ex, rfl, hwx⟩ := Maps.keyOf_int_inv Try.underlying3 hkey
      cases ex
      exact hMore x w' cnt' hlk (Maps.has_true_of_atKey hat) hrg hlt hgr hsz hen)

theorem ReSt.grownR {w w' : World} {lb HB SB TB p sc N tc m b r n cnt : Nat} {SA TA : Option Addr} {st : List Bool} {todo : List Int} {D : DataW Unit} {left : Lit → Bool} (h : ReSt w lb HB SB TB p SA sc N TA tc m st todo) (hr : Rng w b r n D left cnt) (hg : w.grownBy w' (some r)) : ReSt w' lb HB SB TB p SA sc N TA tc m st todo :=
  ⟨h.hb.grown hg (fun e => by injection e with e; exact hr.blk_ne h.hb e.symm), h.sb.grown hg (fun e => by injection e with e; exact hr.blk_ne h.sb e.symm), h.so.grown hg (fun g hg' e => hr.own_ne h.so (by rw [hg', ← e])), h.sl,
   h.tb.grown hg (fun e => by injection e with e; exact hr.blk_ne h.tb e.symm), h.qu.block_ (fun g hg' => hg.block g (h.qu.lt g hg').2 (fun e => hr.que_ne h.qu (by rw [hg', ← e]))), h.tl, h.lo⟩

end Go.Proofs.Ytpkccpegdpodoaa

/- gens: minor. -/
namespace Go.Proofs.Ytpkccpegdpodoaa
open Go.RowKit Go.Maps Go.WideShapes

attribute [local go_sem ↓] Go.wp_at_zero Go.wp_at_succ

theorem HpA.fresh {w w' : World} {base p b : Nat} {F : Nat → Prop} {nu : Int} {A : Option Addr} {c : Nat} {s : List It} (h : HpA w base F p nu b A c s) (hb : Below w.heap.size w w') : HpA w' base F p nu b A c s := by
  obtain ⟨l, h1, h2, h3, h4, h5⟩ := h
  exact ⟨l, h1.fresh hb, h2.fresh hb, h3, h4, h5⟩
/-- a thing, as it lies -/
theorem HpA.get {w : World} {base p b : Nat} {F : Nat → Prop} {nu : Int} {A : Option Addr} {c : Nat} {s : List It} (h : HpA w base F p nu b A c s) {i : Nat} {x : It} (hx : s[i]? = some x) :
    ∃ (g : Nat) (XA : Option Addr) (xc : Nat), A = some ⟨g, 0, none⟩ ∧ w.cell? ⟨g, i * 3, none⟩ = some (.slice XA x.has.length xc) ∧ w.cell? ⟨g, i * 3 + 1, none⟩ = some (.int .i64 x.st) ∧ w.cell? ⟨g, i * 3 + 2, none⟩ = some (.bool x.held) ∧
      Own w base 3 XA xc x.has ∧ (∀ k, rowOf XA = some k → F k) ∧ (∀ k ∈ x.has, I64 k) ∧ F g := by
  obtain ⟨l, h1, h2, h3, h4, h5⟩ := h
  rw [← h5] at hx
  obtain ⟨y, hy, rfl⟩ := get_its hx
  obtain ⟨g, rfl, hg1, hg2, q0, q1, q2⟩ := h2.cells hy
  have hs := h2.sub i y hy
  exact ⟨g, y.A, y.c, rfl, q0, q1, q2, hs.1, hs.2.1, hs.2.2.1, h2.foot g rfl⟩
theorem HpA.top {w : World} {base p b : Nat} {F : Nat → Prop} {nu : Int} {A : Option Addr} {c : Nat} {s : List It} (h : HpA w base F p nu b A c s) : w.cell? ⟨p, 1, none⟩ = some (.slice A s.length c) ∧ w.cell? ⟨p, 2, none⟩ = some (.map (some b)) ∧ w.cell? ⟨p, 0, none⟩ = some (.int .i64 nu) := by
  obtain ⟨l, h1, h2, h3, h4, h5⟩ := h
  have hl : l.length = s.length := by rw [← h5, its_length]
  exact ⟨by rw [← hl]; exact h1.cell 1 rfl, h1.cell 2 rfl, h1.cell 0 rfl⟩

/-- where a row that is cut by one at its front goes on -/
def tailA (g o c : Nat) : Option Addr := if c = 1 then some ⟨g, o, none⟩ else some ⟨g, o + 1, none⟩
theorem run_tail (g o m c : Nat) (h1 : m + 1 ≤ c) (h2 : c ≤ 9223372036854775807) (V : World) : (Instr.slice 47 (.slice (some ⟨g, o, none⟩) (m + 1) c) (some (.int .i64 1)) none none).run Try.prog V = .ok (.slice (tailA g o c) m (c - 1)) V := by
  obtain ⟨i0, hi, hz0, hz1, hz2⟩ := info_parts infoInt
  have hsz : (sizeOf 3).run Try.prog V = .ok 1 V := by simp [sizeOf, typeInfo, hi, hz1]
  have := run_slice_l (P := Try.prog) (w := V) 47 (some ⟨g, o, none⟩) (m + 1) c (by kernel_rfl) .i64 1 (by omega) (by omega)
  rw [this]
  have he : Try.prog.elem 47 = 3 := by kernel_rfl
  rw [he, hsz]
  simp only [Result.andThen, sliced]
  unfold tailA
  have ha : (⟨g, o, none⟩ : Addr).add 1 = ⟨g, o + 1, none⟩ := by unfold Addr.add; split <;> simp_all
  by_cases e : c = 1
  · simp [e]
  · simp [e, ha]

theorem ReSt.pop {w : World} {lb HB SB TB p sc N tc m g o : Nat} {SA : Option Addr} {st : List Bool} {x : Int} {rest : List Int} (h : ReSt w lb HB SB TB p SA sc N (some ⟨g, o, none⟩) tc (m + 1) st (x :: rest)) :
    ReSt (w.setCell ⟨TB, 0, none⟩ (.slice (tailA g o tc) m (tc - 1))) lb HB SB TB p SA sc N (tailA g o tc) (tc - 1) m st rest := by
  obtain ⟨h1, h2, h3, h4, h5, h6, h7, h8⟩ := h
  refine ⟨h1.far (blk_ne_ty h1 h5 (by decide)) _, h2.far (blk_ne_ty h2 h5 (by decide)) _, h3.setCell _ _ (own_ne_ty h3 h5 (by decide)), h4, h5.set_ 0 _, Que.setCell (Que.tail h6) _ _ (Que.ne_blk (Que.tail h6) h5 (by decide)), by simpa using h7, h8⟩

/-- the rounds' state: whom the closure sees; what has been seen -/
def MnSt (s : List It) (w : World) (lb p N : Nat) (TA : Option Addr) (tc m : Nat) (st : List Bool) (todo : List Int) : Prop :=
  ReSt w lb lb (lb + 2) (lb + 3) p (some ⟨lb + 1, 0, none⟩) N N TA tc m st todo ∧ MG s (fun _ => False) st todo ∧ todo.length + unseen st ≤ N
theorem MnSt.m_le {s : List It} {w : World} {lb p N : Nat} {TA : Option Addr} {tc m : Nat} {st : List Bool} {todo : List Int} (h : MnSt s w lb p N TA tc m st todo) : m ≤ N := by
  have := h.1.tl; have := h.2.2; omega

set_option maxHeartbeats 6400000 in
set_option maxRecDepth 100000 in
theorem minor_any (w : World) (base p n : Nat) (F : Nat → Prop) (nu : Int) (s : List It) (h : Gn w base F p nu n s) (hi : GInv s) (hF : ∀ g, F g → g < w.heap.size) :
    Calls Try.prog 157 #[.pointer (some ⟨p, 0, none⟩)] w fun e w' => e = .returned (.int .i64 (minorN s)) ∧ Gn w' base F p nu 0 (minorI s) ∧ Touch F w w' := by
  obtain ⟨b, D, h1, h2, h3, h4, h5, h6⟩ := h
  obtain ⟨N, hN⟩ : ∃ N, s.length = N := ⟨_, rfl⟩
  have hN100 : N ≤ 100 := by have := hi.small; omega
  have hmk := Go.run_make_row' (P := Try.prog) 60 4 (.bool false) 1 Try.underlying60 infoBool rfl .i64 .i64 N (by omega) (by omega)
  obtain ⟨A, c, h1⟩ := h1
  obtain ⟨c1, c2, -⟩ := h1.top
  rw [hN] at c1
  have hplt := (show HpG w base F p nu b s from ⟨A, c, h1⟩).lt.1
  have hblt := h2.lt
  have H := Lib.hid (And.intro h1 (And.intro h2 (And.intro hi (And.intro h5 (And.intro h6 (And.intro hN hF)))))); clear h1 h2 h5 h6 hi hN hF c2
  go_enter Try.func157, Try.ntmps157
  go_upto_region 4 with (fail)
  clear c1
  refine wp_world (fun W => MnSt s W w.heap.size p N none 0 0 (List.replicate N false) [] ∧ Below w.heap.size w W ∧ w.heap.size + 4 ≤ W.heap.size) ⟨⟨⟨?_, ?_, ?_, List.length_replicate, ?_, Que.nil_, rfl, by omega⟩, ?_, ?_⟩, ?_, ?_⟩ ?_
  · exact (((Blk.new _ _ _).alloc _).alloc _).alloc _
  · exact (Blk.at_ ((w.alloc _).alloc _) _ _ (by simp)).alloc _
  · have := own_made (w.alloc (.cells #[.pointer (some ⟨p, 0, none⟩)] 132)) w.heap.size 4 N (by simp) (by simp only [maxLen]; omega)
    simp only [World.size_alloc] at this
    exact (this.alloc _).alloc _
  · exact Blk.at_ (((w.alloc _).alloc _).alloc _) _ _ (by simp)
  · rw [← H.out.2.2.2.2.2.1]; exact MG.start s
  · have := unseen_le (List.replicate N false); simp at this ⊢; omega
  · exact (((((Below.refl _ _).alloc (Nat.le_refl _) _).alloc (by simp) _).alloc (by simp; omega) _).alloc (by simp; omega) _)
  · simp
  rintro W ⟨hM0, hb0, hs0⟩
  have H0 := Lib.hid hM0; clear hM0 hmk
  have c1 := (H.out.1.fresh hb0).top.1
  rw [H.out.2.2.2.2.2.1] at c1
  have y0 := H0.out.1.hb.cell 0 (v := .pointer (some ⟨p, 0, none⟩)) rfl
  go_wp2_with fail
  clear c1 y0
  go_loopg [22] N (fun gk iv wr => ∃ (k : Nat) (TA : Option Addr) (tc m : Nat) (st : List Bool) (todo : List Int), k ≤ N ∧ gk = N - k ∧ iv = .int .i64 k ∧ Hid (MnSt s wr w.heap.size p N TA tc m st todo ∧ ∀ j : Nat, j < k → stAt s j = some 0 → heldAt s j → st[j]? = some true) ∧ Below w.heap.size w wr ∧ w.heap.size + 4 ≤ wr.heap.size)
  case atStart => exact ⟨0, none, 0, 0, _, [], Nat.zero_le _, rfl, rfl, ⟨H0.out, fun j hj => absurd hj (Nat.not_lt_zero _)⟩, hb0, hs0⟩
  case round =>
    obtain ⟨k, TA, tc, m, st, todo, hk, rfl, rfl, hkeep, hbl, hsz⟩ := hrel
    clear hb0 hs0
    by_cases hlt : k < N
    · obtain ⟨x, hx⟩ : ∃ x, s[k]? = some x := ⟨_, List.getElem?_eq_getElem (by have := H.out.2.2.2.2.2.1; omega)⟩
      obtain ⟨xh, xs, xb⟩ := x
      obtain ⟨g, XA, xc, rfl, e0, e1, e2, -, -, -, -⟩ := (H.out.1.fresh hbl).get hx
      have b0 : (0 : Int) ≤ (k : Int) := by omega
      have b1 : (k : Int) < (N : Int) := by omega
      have hxh : heldAt s k ↔ xb = true := ⟨fun ⟨y, h1, h2⟩ => by rw [hx] at h1; injection h1 with h1; subst h1; exact h2, fun e => ⟨_, hx, e⟩⟩
      have hm := hkeep.out.1.m_le
      have HX := Lib.hid (And.intro hkeep.out (And.intro hxh hx)); clear hkeep hxh hx
      cases xb with
      | false =>
        go_wp2_with fail
        go_roundg (N - (k + 1))
        case measure => omega
        case rel =>
          refine ⟨k + 1, TA, tc, m, st, todo, by omega, rfl, by go_num, ⟨⟨HX.out.1.1.1.alloc _, HX.out.1.1.2⟩, fun j hj h0 hh => ?_⟩, hbl.alloc (by omega) _, by simp; omega⟩
          by_cases e : j = k
          · subst e; have := HX.out.2.1.1 hh; cases this
          · exact HX.out.1.2 j (by omega) h0 hh
      | true =>
        obtain ⟨wo, rfl⟩ : ∃ wo : World, wo = wr := ⟨_, rfl⟩
        go_wp2_with fail
        refine calls_world (fun V => Own V (wo.heap.size + 1) 3 (some ⟨wo.heap.size + 1, 0, none⟩) 1 [(k : Int)] ∧ Below wo.heap.size wo V ∧ wo.heap.size + 2 = V.heap.size) ⟨?_, ((Below.refl _ _).alloc (Nat.le_refl _) _).alloc (by simp) _, by simp⟩ ?_
        · have := own_built (wo.alloc (.cells #[.slice XA xh.length xc, .int .i64 xs, .bool true] 206)) #[.int .i64 (k : Int)] 3 [(k : Int)] 1 rfl rfl (by simp [maxLen])
          simpa using this
        rintro V ⟨hV1, hbV, hsV⟩
        have hr := HX.out.1.1.1.fresh hbV
        have hst0 : stAt s k = some xs := stAt_get HX.out.2.2
        have hmg := HX.out.1.1.2.1.reach [(k : Int)] (fun y hy => by simp at hy; exact .inr ⟨k, hy, by have := H.out.2.2.2.2.2.1; omega⟩) (fun j hj h0 => by
          simp at hj
          obtain rfl : j = k := by omega
          exact .held h0 (HX.out.2.1.2 (by first | trivial | rfl)))
        obtain ⟨st', todo', hst'⟩ : ∃ st' todo', rchL s [(k : Int)] (st, todo) = (st', todo') := ⟨_, _, rfl⟩
        have hcall := reach_any V base p b w.heap.size (wo.heap.size + 1) w.heap.size (w.heap.size + 2) (w.heap.size + 3) N N tc m 1 1 F nu s (some ⟨w.heap.size + 1, 0, none⟩) TA (some ⟨wo.heap.size + 1, 0, none⟩) st todo [(k : Int)] ⟨_, _, H.out.1.fresh (hbl.trans (hbV.mono (by omega)))⟩ H.out.2.2.2.2.2.2 H.out.2.2.2.2.2.1 hN100 hr rfl (by omega) (by omega)
          (fun U hU => ⟨_, (hV1.touch_ hU (fun g hg hf => hf.2 (by injection hg with hg; exact hg.symm))).at_ (by intro z hz; simp at hz; subst hz; exact (by unfold I64; omega : I64 (k : Int)))⟩)
          (fun y hy => by simp at hy; exact .inr ⟨k, hy, hlt⟩) (by omega) (by intro e; injection e with e; simp only at e; omega) (fun e => by have := (hr.qu.lt _ e).2; have := (HX.out.1.1.1.qu.lt _ e).2; omega) (by omega) (by omega) (by omega)
        rw [hst'] at hcall hmg
        simp only at hcall hmg
        have HC := Lib.hid (And.intro hcall hmg); clear hcall hmg hst' hr hV1
        refine HC.out.1.mono ?_
        rintro e w2 ⟨rfl, ⟨TA', tc', m', hr2, -⟩, hT2⟩
        have hs2 := hT2.size
        have hb2 : Below w.heap.size w w2 := hbl.trans ((hbV.mono (by omega)).trans (hT2.below (fun g hg => hg.1) (by omega)))
        have HR := Lib.hid (And.intro hr2 hb2); clear hr2 hb2 hT2
        go_wp2_with fail
        go_roundg (N - (k + 1))
        case measure => omega
        case rel =>
          refine ⟨k + 1, TA', tc', m', st', todo', by omega, rfl, by go_num, ⟨⟨HR.out.1, HC.out.2.1, by have h1 := HC.out.2.2.few; have h2 := HX.out.1.1.2.2; omega⟩, fun j hj h0 hh => ?_⟩, HR.out.2, by omega⟩
          by_cases e : j = k
          · subst e; exact HC.out.2.2.seen _ (by simp) h0
          · exact HC.out.2.2.grows j (HX.out.1.2 j (by omega) h0 hh)
    · obtain rfl : N = k := by omega
      obtain ⟨wm, rfl⟩ : ∃ wm : World, wm = wr := ⟨_, rfl⟩
      have p2 := (H.out.1.fresh hbl).top.2.1
      have y0 := hkeep.out.1.1.hb.cell 0 (v := .pointer (some ⟨p, 0, none⟩)) rfl
      have hset := H.out.2.1.fresh hbl
      have HK := Lib.hid (And.intro hkeep.out hset); clear hkeep hset
      go_wp2_with (at_range; go_must (refine wpList_range_nums rfl (.tmp 37) 166 167 rfl Try.underlying166 rfl HK.out.2 ?_); intro w0 hrg0 hg0 hs0)
      have hb0 : Below w.heap.size w w0 := hbl.grown hg0 (by omega) (fun g hg => by cases hg)
      have hr0 : ReSt w0 w.heap.size w.heap.size (w.heap.size + 2) (w.heap.size + 3) p (some ⟨w.heap.size + 1, 0, none⟩) N N TA tc m st todo := HK.out.1.1.1.fresh ⟨hg0.os, hg0.tape, hg0.output, hg0.size, fun g hg => hg0.block g hg (by simp)⟩
      have HG := Lib.hid (And.intro hrg0 (And.intro hr0 hb0)); clear hrg0 hg0 hr0 hb0 p2 y0
      go_frame
      go_loopg [8] (Maps.size D) (fun gk ov wq => ∃ (left : Lit → Bool) (cnt : Nat) (TA : Option Addr) (tc m : Nat) (st : List Bool) (todo : List Int), gk = cnt ∧ Hid (Rng wq b wm.heap.size n D left cnt ∧ MnSt s wq w.heap.size p N TA tc m st todo ∧ (∀ j : Nat, stAt s j = some 0 → heldAt s j → st[j]? = some true) ∧ (∀ i k : Nat, inSet D i → left (.int .i64 (i : Int)) = false → edge s i k → stAt s k = some 0 → st[k]? = some true)) ∧ Below w.heap.size w wq ∧ wm.heap.size < wq.heap.size)
      case atStart =>
        exact ⟨_, _, TA, tc, m, st, todo, rfl, ⟨HG.out.1, ⟨HG.out.2.1, HK.out.1.1.2⟩, fun j h0 hh => HK.out.1.2 j (by have := stAt_lt h0; have := H.out.2.2.2.2.2.1; omega) h0 hh, fun i k h1 h2 => by unfold inSet at h1; rw [h1] at h2; cases h2⟩, HG.out.2.2, by omega⟩
      case round =>
        obtain ⟨left, cnt, TA, tc, m, st, todo, rfl, hkeep, hbl2, hsz2⟩ := hrel
        have hm := hkeep.out.2.1.m_le
        go_wp2_with (at_next; go_must (refine wpList_next_nums rfl (.tmp 38) rfl rfl hkeep.out.1 ?_ ?_))
        · -- nothing is left
          intro _ hl0
          have hD : ∀ i k : Nat, stAt s i = some 1 → edge s i k → stAt s k = some 0 → st[k]? = some true := fun i k h1 he h0 => hkeep.out.2.2.2 i k (H.out.2.2.2.1.all i k h1 he h0) (hl0 _) he h0
          have HK2 := Lib.hid (And.intro hkeep.out.2.1 (And.intro hkeep.out.2.2.1 hD)); clear hkeep hD hl0
          go_wp2_with fail
          go_loopg [] (m + unseen st) (fun gk wq => ∃ (TA : Option Addr) (tc m : Nat) (st : List Bool) (todo : List Int), gk = m + unseen st ∧ Hid (MnSt s wq w.heap.size p N TA tc m st todo ∧ (∀ j : Nat, stAt s j = some 0 → heldAt s j → st[j]? = some true) ∧ (∀ i k : Nat, stAt s i = some 1 → edge s i k → stAt s k = some 0 → st[k]? = some true)) ∧ Below w.heap.size w wq ∧ wm.heap.size < wq.heap.size)
          case atStart => exact ⟨TA, tc, m, st, todo, rfl, HK2.out, hbl2, hsz2⟩
          case round =>
            clear hm
            obtain ⟨TA, tc, m, st, todo, rfl, hkeep, hbl3, hsz3⟩ := hrel
            have hm := hkeep.out.1.m_le
            have t0 := hkeep.out.1.1.tb.cell 0 (v := .slice TA m tc) rfl
            cases todo with
            | nil =>
              obtain rfl : 0 = m := hkeep.out.1.1.tl
              have hfin := hkeep.out.1.2.1.fin hkeep.out.2.1 hkeep.out.2.2
              have y1 := hkeep.out.1.1.hb.cell 0 (v := .pointer (some ⟨p, 0, none⟩)) rfl
              have y2 := hkeep.out.1.1.sb.cell 0 (v := .slice (some ⟨w.heap.size + 1, 0, none⟩) N N) rfl
              have hso := hkeep.out.1.1.so
              rw [hfin] at hso
              have HF := Lib.hid (And.intro hso hkeep.out.1.1.sl); clear hso hfin hkeep
              go_wp2_with fail
              refine calls_world (fun V => Own V wr.heap.size 3 (some ⟨wr.heap.size, 0, none⟩) 1 [(0 : Int)] ∧ Below wr.heap.size wr V ∧ wr.heap.size < V.heap.size) ⟨own_built wr _ _ [(0 : Int)] 1 rfl rfl (by simp [maxLen]), (Below.refl _ _).alloc (Nat.le_refl _) _, by simp⟩ ?_
              rintro V ⟨hV, hbV, hsV⟩
              have hbwV : Below w.heap.size w V := hbl3.trans (hbV.mono (by omega))
              refine (collect_any V base p b n 1 F nu s D (some ⟨w.heap.size + 1, 0, none⟩) (some ⟨wr.heap.size, 0, none⟩) N 1 N (ygL s) [0] ⟨_, _, H.out.1.fresh hbwV⟩ (H.out.2.1.fresh hbwV) h3 H.out.2.2.1 H.out.2.2.2.2.2.1 (by rw [ygL_length]; exact H.out.2.2.2.2.2.1) ?_ ?_ rfl (by omega)).mono ?_
              · intro U hU
                exact ⟨_, (HF.out.1.fresh hbV).touch_ hU (fun g hg hf => by injection hg with hg; have := H.out.2.2.2.2.2.2 g hf; simp only at hg; omega)⟩
              · intro U hU
                exact ⟨_, (hV.touch_ hU (fun g hg hf => by injection hg with hg; have := H.out.2.2.2.2.2.2 g hf; simp only at hg; omega)).at_ (by intro z hz; simp at hz; subst hz; exact (by unfold I64; omega : I64 0))⟩
              rintro e w3 ⟨rfl, k1, k2, hT⟩
              have HC := Lib.hid (And.intro k1 (And.intro k2 ((Touch.ofBelow (F := F) hbwV).trans hT))); clear k1 k2 hT
              go_wp2_with fail
              go_ret
              exact ⟨rfl, Gn.ofCollect HC.out.1 HC.out.2.1 h3 h4 (by simp), HC.out.2.2⟩
            | cons x rest =>
              obtain ⟨m', rfl⟩ : ∃ m', m = m' + 1 := ⟨m - 1, by have := hkeep.out.1.1.tl; simp at this; omega⟩
              obtain ⟨i, rfl, hix⟩ := hkeep.out.1.2.1.tin x (by simp)
              have hyg := hkeep.out.1.2.1.sound i hix
              have hst1 := hyg.young
              obtain ⟨xi, hx⟩ : ∃ xi, s[i]? = some xi := ⟨_, (get_stAt hst1).choose_spec.1⟩
              obtain ⟨xh, xs, xb⟩ := xi
              obtain ⟨gq, oq, rfl, hgq1, hgq2⟩ := hkeep.out.1.1.qu.some_ (by simp)
              have q0 := hkeep.out.1.1.qu.cell (i := 0) (x := (i : Int)) rfl
              rw [Nat.add_zero] at q0
              have hcap := hkeep.out.1.1.qu.cap
              have hcap1 : m' + 1 ≤ tc := by have := hkeep.out.1.1.tl; omega
              have hcap2 : tc ≤ 9223372036854775807 := by have := hcap.2; unfold maxLen at this; omega
              have hrun := run_tail gq oq m' tc hcap1 hcap2
              have zt := hkeep.out.1.1.tb.frozen 0
              have y0 := hkeep.out.1.1.hb.cell 0 (v := .pointer (some ⟨p, 0, none⟩)) rfl
              have hA1 := H.out.1.fresh hbl3
              obtain ⟨g, XA, xc, rfl, e0, e1, e2, e3, e4, e5, e6⟩ := hA1.get hx
              have p1 := hA1.top.1
              rw [H.out.2.2.2.2.2.1] at p1
              have i0 : (0 : Int) ≤ (i : Int) := by omega
              have i1 : (i : Int) < (N : Int) := by have := stAt_lt hst1; have := H.out.2.2.2.2.2.1; omega
              have hgl := H.out.2.2.2.2.2.2 g e6
              have hn1 : p ≠ w.heap.size + 1 + 1 + 1 := by omega
              have hn2 : g ≠ w.heap.size + 1 + 1 + 1 := by omega
              clear e1 e2 hcap
              go_wp2_with fail
              have hbw3 : Below w.heap.size w (wr.setCell ⟨w.heap.size + 1 + 1 + 1, 0, none⟩ (.slice (tailA gq oq tc) m' (tc - 1))) := hbl3.setCell (by simp; omega) _
              have hA3 := H.out.1.fresh hbw3
              have e3' := e3.setCell ⟨w.heap.size + 1 + 1 + 1, 0, none⟩ (.slice (tailA gq oq tc) m' (tc - 1)) (fun e => by have := H.out.2.2.2.2.2.2 _ (e4 _ e); simp only at this; omega)
              have hr3 := hkeep.out.1.1.pop
              have hmg := hkeep.out.1.2.1.pop.reach xh (fun y hy => by
                rcases H.out.2.2.1.refs _ (List.mem_of_getElem? hx) y hy with e | ⟨k, e, h1, -⟩
                · exact .inl e
                · exact .inr ⟨k, e, h1⟩) (fun j hj h0 => .step hyg ⟨_, hx, hj⟩ h0)
              obtain ⟨st', todo', hst'⟩ : ∃ st' todo', rchL s xh (st, rest) = (st', todo') := ⟨_, _, rfl⟩
              have hx10 : xh.length ≤ 10 := H.out.2.2.1.long _ (List.mem_of_getElem? hx)
              have hcall := reach_any (wr.setCell ⟨w.heap.size + 1 + 1 + 1, 0, none⟩ (.slice (tailA gq oq tc) m' (tc - 1))) base p b w.heap.size wr.heap.size w.heap.size (w.heap.size + 2) (w.heap.size + 3) N N (tc - 1) m' xh.length xc F nu s (some ⟨w.heap.size + 1, 0, none⟩) (tailA gq oq tc) XA st rest xh ⟨_, _, hA3⟩ H.out.2.2.2.2.2.2 H.out.2.2.2.2.2.1 hN100 hr3 rfl (by omega) (by omega)
                (fun U hU => ⟨_, (e3'.touch_ hU (fun g hg hf => by have := H.out.2.2.2.2.2.2 g (e4 g hg); have := hf.1; omega)).at_ e5⟩)
                (fun y hy => by
                  rcases H.out.2.2.1.refs _ (List.mem_of_getElem? hx) y hy with e | ⟨k, e, h1, -⟩
                  · exact .inl e
                  · exact .inr ⟨k, e, by have := H.out.2.2.2.2.2.1; omega⟩) (by have := hbw3.size; omega) (by intro e; injection e with e; simp only at e; omega) (fun e => by have h1 := (hr3.qu.lt _ e).2; rw [World.size_setCell] at h1; omega) (by omega) (by omega) (by rw [World.size_setCell]; exact Nat.le_refl _)
              rw [hst'] at hcall hmg
              simp only at hcall hmg
              have hseen : ∀ k : Nat, edge s i k → stAt s k = some 0 → st'[k]? = some true := fun k ⟨y, h1, h2⟩ h0 => by
                rw [hx] at h1; injection h1 with h1; subst h1
                exact hmg.2.seen k h2 h0
              have hmg2 : MG s (fun _ => False) st' todo' := hmg.1.weak (fun j e => .inr (by
                obtain rfl : j = i := by omega
                exact hseen))
              have htl := hkeep.out.1.1.tl
              have HC := Lib.hid (And.intro hcall (And.intro hmg2 (And.intro hmg.2 (And.intro hkeep.out (And.intro hbw3 htl))))); clear hcall hmg hmg2 hseen hst' hr3 hkeep hx hst1 hix hyg e3 e3' e4 e5 e6 e0 hA1 hA3 hbw3 hrun q0 t0 zt y0 p1 htl
              refine HC.out.1.mono ?_
              rintro e w2 ⟨rfl, ⟨TA', tc', m2, hr2, -⟩, hT2⟩
              have hs2 := hT2.size
              rw [World.size_setCell] at hs2
              have hb2 : Below w.heap.size w w2 := HC.out.2.2.2.2.1.trans (hT2.below (fun g hg => hg.1) (by rw [World.size_setCell]; omega))
              have hfew := HC.out.2.2.1.few
              have htl2 := hr2.tl
              have htl := HC.out.2.2.2.2.2
              simp only [List.length_cons] at htl
              have hmeas : m2 + unseen st' < m' + 1 + unseen st := by omega
              have HR := Lib.hid (And.intro hr2 hb2); clear hr2 hb2 hT2 hfew htl htl2
              go_wp2_with fail
              go_roundg (m2 + unseen st')
              case measure => exact hmeas
              case rel =>
                obtain ⟨-, c1, c2, ⟨d1, d2, d3⟩, -, -⟩ := HC.out
                exact ⟨TA', tc', m2, st', todo', rfl, ⟨⟨HR.out.1, c1, by have h1 := c2.few; have h2 := d1.2.2; simp only [List.length_cons] at h2; omega⟩, fun j h0 hh => c2.grows j (d2 j h0 hh), fun j k h1 he h0 => c2.grows k (d3 j k h1 he h0)⟩, HR.out.2, by omega⟩
        · -- a number has come
          intro x w1 cnt1 hlx hhx hrg1 hlt1 hg1 hs1 hen
          obtain ⟨i, hix⟩ := H.out.2.2.2.2.1 _ hhx
          injection hix with _ hix
          subst hix
          have hst1 := H.out.2.2.2.1.old i hhx
          obtain ⟨xi, hx⟩ : ∃ xi, s[i]? = some xi := ⟨_, (get_stAt hst1).choose_spec.1⟩
          obtain ⟨xh, xs, xb⟩ := xi
          have hb1 : Below w.heap.size w w1 := hbl2.grown hg1 (by omega) (fun g hg => by injection hg with hg; omega)
          have hA1 := H.out.1.fresh hb1
          obtain ⟨g, XA, xc, rfl, e0, e1, e2, e3, e4, e5, e6⟩ := hA1.get hx
          simp only at e0 e3 e5
          have p1 := hA1.top.1
          rw [H.out.2.2.2.2.2.1] at p1
          have hr1 := hkeep.out.2.1.1.grownR hkeep.out.1 hg1
          have y1 := hr1.hb.cell 0 (v := .pointer (some ⟨p, 0, none⟩)) rfl
          have i0 : (0 : Int) ≤ (i : Int) := by omega
          have i1 : (i : Int) < (N : Int) := by have := stAt_lt hst1; have := H.out.2.2.2.2.2.1; omega
          have hx10 : xh.length ≤ 10 := H.out.2.2.1.long _ (List.mem_of_getElem? hx)
          have hmg := hkeep.out.2.1.2.1.reach xh (fun y hy => by
            rcases H.out.2.2.1.refs _ (List.mem_of_getElem? hx) y hy with e | ⟨k, e, h1, -⟩
            · exact .inl e
            · exact .inr ⟨k, e, h1⟩) (fun j hj h0 => .old hst1 ⟨_, hx, hj⟩ h0)
          obtain ⟨st', todo', hst'⟩ : ∃ st' todo', rchL s xh (st, todo) = (st', todo') := ⟨_, _, rfl⟩
          have hcall := reach_any w1 base p b w.heap.size wm.heap.size w.heap.size (w.heap.size + 2) (w.heap.size + 3) N N tc m xh.length xc F nu s (some ⟨w.heap.size + 1, 0, none⟩) TA XA st todo xh ⟨_, _, hA1⟩ H.out.2.2.2.2.2.2 H.out.2.2.2.2.2.1 hN100 hr1 rfl (by omega) (by omega)
            (fun U hU => ⟨_, (e3.touch_ hU (fun g hg hf => by have := H.out.2.2.2.2.2.2 g (e4 g hg); have := hf.1; omega)).at_ e5⟩)
            (fun y hy => by
              rcases H.out.2.2.1.refs _ (List.mem_of_getElem? hx) y hy with e | ⟨k, e, h1, -⟩
              · exact .inl e
              · exact .inr ⟨k, e, by have := H.out.2.2.2.2.2.1; omega⟩) (by omega) (by intro e; injection e with e; simp only at e; omega) (hrg1.que_ne hr1.qu) (by omega) (by omega) (by omega)
          rw [hst'] at hcall hmg
          simp only at hcall hmg
          have hseen : ∀ k : Nat, edge s i k → stAt s k = some 0 → st'[k]? = some true := fun k ⟨y, h1, h2⟩ h0 => by
            rw [hx] at h1; injection h1 with h1; subst h1
            exact hmg.2.seen k h2 h0
          obtain ⟨xn, hxn⟩ : ∃ xn, xh.length = xn := ⟨_, rfl⟩
          rw [hxn] at hcall e0
          have HC := Lib.hid (And.intro hcall (And.intro hmg (And.intro hseen (And.intro hrg1 (And.intro hkeep.out.2 hb1))))); clear hcall hmg hseen hst' hr1 hrg1 hkeep hx hst1 e3 e4 e5 e1 e2 hA1 hg1 hlx hhx hx10 hxn
          go_wp2_with fail
          refine HC.out.1.mono ?_
          rintro e w2 ⟨rfl, ⟨TA', tc', m', hr2, -⟩, hT2⟩
          have hs2 := hT2.size
          have hb2 : Below w.heap.size w w2 := HC.out.2.2.2.2.2.trans (hT2.below (fun g hg => hg.1) (by omega))
          have hrg2 := HC.out.2.2.2.1.touch hT2 (fun e => by have := e.1; omega) (fun e => e.2 rfl)
          have HR := Lib.hid (And.intro hr2 (And.intro hb2 hrg2)); clear hr2 hb2 hT2 hrg2
          go_wp2_with fail
          go_roundg cnt1
          case measure => exact hlt1
          case rel =>
            obtain ⟨-, ⟨c1, c2⟩, c3, -, ⟨d1, d2, d3⟩, -⟩ := HC.out
            refine ⟨_, cnt1, TA', tc', m', st', todo', rfl, ⟨HR.out.2.2, ⟨HR.out.1, c1, by have h1 := c2.few; have h2 := d1.2.2; omega⟩, fun j h0 hh => c2.grows j (d2 j h0 hh), fun j k h1 h2 he h0 => ?_⟩, HR.out.2.1, by omega⟩
            by_cases e : j = i
            · subst e; exact c3 k he h0
            · refine c2.grows k (d3 j k h1 ?_ he h0)
              have hne : (Lit.int .i64 (j : Int)).sameKey (.int .i64 (i : Int)) = false := sameKey_ne (fun e2 => by injection e2 with _ e2; omega)
              simpa [hne] using h2

end Go.Proofs.Ytpkccpegdpodoaa

/- Two generations: what is remembered, sorted. No program is named here. -/
namespace Go.Proofs.Ytpkccpegdpodoaa

theorem risingFrom_sorted : ∀ (l : List Bool) (i : Nat), (risingFrom i l).Pairwise (fun x y => x < y)
  | [], i => List.Pairwise.nil
  | b :: l, i => by
    rw [risingFrom]
    split
    · refine List.Pairwise.cons (fun y hy => ?_) (risingFrom_sorted l (i + 1))
      obtain ⟨n, rfl, -⟩ := (mem_risingFrom _ _ _).1 hy
      omega
    · exact risingFrom_sorted l (i + 1)
theorem rising_sorted (l : List Bool) : (rising l).Pairwise (fun x y => x < y) := risingFrom_sorted l 0
theorem sorted_nodup {l : List Int} (h : l.Pairwise (fun x y => x < y)) : l.Nodup := h.imp (fun h => by omega)
/-- a strictly rising list is what sorting a list of the same members, each once, comes to -/
theorem sort_eq {l r : List Int} (hl : l.Nodup) (hr : r.Pairwise (fun x y => x < y)) (h : ∀ x, x ∈ l ↔ x ∈ r) : (l.mergeSort fun x y => decide (x ≤ y)) = r := by
  have hp : (l.mergeSort fun x y => decide (x ≤ y)).Perm r := (List.mergeSort_perm _ _).trans ((List.perm_ext_iff_of_nodup hl (sorted_nodup hr)).2 h)
  have hs : (l.mergeSort fun x y => decide (x ≤ y)).Pairwise (fun a b => (decide (a ≤ b)) = true) := List.pairwise_mergeSort (fun a b c h1 h2 => by simp at h1 h2 ⊢; omega) (fun a b => by simp; omega) l
  refine List.Perm.eq_of_pairwise (le := fun a b => a ≤ b) (fun a b _ _ h1 h2 => by omega) (hs.imp (fun h => by simpa using h)) (hr.imp (fun h => by omega)) hp

/-- what has come of the ranging: each once, and none that has come and was to be taken lacks -/
structure BarL (s : List It) (P : Nat → Prop) (left : Nat → Prop) (l : List Int) : Prop where
  nd : l.Nodup
  mem : ∀ x ∈ l, ∃ n : Nat, x = (n : Int) ∧ P n ∧ ¬ left n ∧ ∃ y, s[n]? = some y ∧ y.has.any (isYg s) = true
  all : ∀ (n : Nat) (y : It), P n → ¬ left n → s[n]? = some y → y.has.any (isYg s) = true → (n : Int) ∈ l
section
variable {s : List It} {P left left' : Nat → Prop} {l : List Int}
theorem BarL.start (h : ∀ n, P n → left n) : BarL s P left [] := ⟨List.nodup_nil, by simp, fun n y h1 h2 => absurd (h n h1) h2⟩
theorem BarL.skip (h : BarL s P left l) {i : Nat} {y : It} (hx : s[i]? = some y) (hn : y.has.any (isYg s) = false) (hl : ∀ n, left' n ↔ left n ∧ n ≠ i) : BarL s P left' l :=
  ⟨h.nd, fun x hx => by
    obtain ⟨n, h1, h2, h3, h4⟩ := h.mem x hx
    exact ⟨n, h1, h2, fun e => h3 ((hl n).1 e).1, h4⟩, fun n y' h1 h2 h3 h4 => by
    by_cases e : n = i
    · subst e; rw [hx] at h3; injection h3 with h3; subst h3; rw [hn] at h4; cases h4
    · exact h.all n y' h1 (fun e2 => h2 ((hl n).2 ⟨e2, e⟩)) h3 h4⟩
theorem BarL.take (h : BarL s P left l) {i : Nat} {y : It} (hP : P i) (hi : left i) (hx : s[i]? = some y) (hn : y.has.any (isYg s) = true) (hl : ∀ n, left' n ↔ left n ∧ n ≠ i) : BarL s P left' (l ++ [(i : Int)]) := by
  refine ⟨?_, fun x hx' => ?_, fun n y' h1 h2 h3 h4 => ?_⟩
  · rw [List.nodup_append]
    refine ⟨h.nd, by simp, fun a ha b hb => ?_⟩
    simp at hb
    subst hb
    rintro rfl
    obtain ⟨n, h1, h2, h3, h4⟩ := h.mem _ ha
    obtain rfl : i = n := by omega
    exact h3 hi
  · rcases List.mem_append.1 hx' with h1 | h1
    · obtain ⟨n, h1, h2, h3, h4⟩ := h.mem x h1
      exact ⟨n, h1, h2, fun e => h3 ((hl n).1 e).1, h4⟩
    · simp at h1
      exact ⟨i, h1, hP, fun e => ((hl i).1 e).2 rfl, y, hx, hn⟩
  · by_cases e : n = i
    · subst e; simp
    · exact List.mem_append_left _ (h.all n y' h1 (fun e2 => h2 ((hl n).2 ⟨e2, e⟩)) h3 h4)
theorem BarL.fin (h : BarL s P left l) (hr : RemP s P) (hl : ∀ n, ¬ left n) : (l.mergeSort fun x y => decide (x ≤ y)) = barI s := by
  refine sort_eq h.nd (rising_sorted _) (fun x => ?_)
  change _ ↔ x ∈ barI s
  rw [mem_barI hr]
  constructor
  · intro hx
    obtain ⟨n, h1, h2, h3, h4⟩ := h.mem x hx
    exact ⟨n, h1, h2, h4⟩
  · rintro ⟨n, rfl, h1, y, h2, h3⟩
    exact h.all n y h1 (hl n) h2 h3
theorem barI_length (s : List It) : (barI s).length ≤ s.length := by
  have := rising_length (s.map (barX s))
  simpa [barI] using this
theorem BarL.length (h : BarL s P left l) (hs : ∀ n, P n → n < s.length) : l.length ≤ s.length := by
  have hsub : ∀ x ∈ l, x ∈ (List.range s.length).map (fun n : Nat => (n : Int)) := fun x hx => by
    obtain ⟨n, rfl, h2, -⟩ := h.mem x hx
    exact List.mem_map.2 ⟨n, List.mem_range.2 (hs n h2), rfl⟩
  have := h.nd.length_le_of_subset hsub
  simpa using this
end

end Go.Proofs.Ytpkccpegdpodoaa

/- slices.Sort at a row of the call's own. -/
namespace Go.Proofs.Ytpkccpegdpodoaa
open Go.RowKit Go.Sort Go.Shelf

def srtL_ren : Go.Shelf.Ren := ⟨fun | 5 => 162 | 8 => 192 | 7 => 191 | 19 => 212 | 20 => 213 | 10 => 203 | 11 => 204 | 12 => 205 | 13 => 206 | 14 => 207 | 15 => 208 | 16 => 209 | 17 => 210 | 18 => 211 | 30 => 216 | 31 => 217 | 32 => 218 | 33 => 219 | 34 => 220 | 35 => 221 | 40 => 222 | n => n, fun | 23 => 47 | 25 => 3 | 3 => 3 | 32 => 141 | 22 => 47 | 0 => 0 | 44 => 140 | 46 => 24 | 4 => 4 | 36 => 235 | 35 => 234 | 41 => 196 | 5 => 5 | 9 => 9 | 53 => 245 | 57 => 249 | 63 => 251 | 64 => 137 | n => n, fun | n => n⟩
theorem srtL : Go.Proofs.SlLaysM.n5 Try.prog srtL_ren := {
  mixed := by kernel_rfl
  f5 := ⟨Try.f162.name, by decide, Try.func162.trans (congrArg some (by kernel_rfl))⟩
  f7 := ⟨Try.f191.name, by decide, Try.func191.trans (congrArg some (by kernel_rfl))⟩
  f8 := Try.func192.trans (congrArg some (by kernel_rfl))
  f10 := ⟨Try.f203.name, by decide, Try.func203.trans (congrArg some (by kernel_rfl))⟩
  f11 := ⟨Try.f204.name, by decide, Try.func204.trans (congrArg some (by kernel_rfl))⟩
  f12 := ⟨Try.f205.name, by decide, Try.func205.trans (congrArg some (by kernel_rfl))⟩
  f13 := ⟨Try.f206.name, by decide, Try.func206.trans (congrArg some (by kernel_rfl))⟩
  f14 := ⟨Try.f207.name, by decide, Try.func207.trans (congrArg some (by kernel_rfl))⟩
  f15 := ⟨Try.f208.name, by decide, Try.func208.trans (congrArg some (by kernel_rfl))⟩
  f16 := ⟨Try.f209.name, by decide, Try.func209.trans (congrArg some (by kernel_rfl))⟩
  f17 := ⟨Try.f210.name, by decide, Try.func210.trans (congrArg some (by kernel_rfl))⟩
  f18 := ⟨Try.f211.name, by decide, Try.func211.trans (congrArg some (by kernel_rfl))⟩
  f19 := Try.func212.trans (congrArg some (by kernel_rfl))
  f20 := Try.func213.trans (congrArg some (by kernel_rfl))
  f30 := ⟨Try.f216.name, by decide, Try.func216.trans (congrArg some (by kernel_rfl))⟩
  f31 := Try.func217.trans (congrArg some (by kernel_rfl))
  f32 := Try.func218.trans (congrArg some (by kernel_rfl))
  f33 := ⟨Try.f219.name, by decide, Try.func219.trans (congrArg some (by kernel_rfl))⟩
  f34 := ⟨Try.f220.name, by decide, Try.func220.trans (congrArg some (by kernel_rfl))⟩
  f35 := ⟨Try.f221.name, by decide, Try.func221.trans (congrArg some (by kernel_rfl))⟩
  f40 := ⟨Try.f222.name, by decide, Try.func222.trans (congrArg some (by kernel_rfl))⟩
  t0 := Try.underlying0
  a0 := Try.isAgg0
  z0 := Try.sizeOf0
  v0 := Try.zeroValue0
  t3 := Try.underlying3
  a3 := Try.isAgg3
  z3 := Try.sizeOf3
  v3 := Try.zeroValue3
  t4 := Try.underlying4
  a4 := Try.isAgg4
  z4 := Try.sizeOf4
  v4 := Try.zeroValue4
  t5 := Try.underlying5
  a5 := Try.isAgg5
  z5 := Try.sizeOf5
  v5 := Try.zeroValue5
  t9 := Try.underlying9
  a9 := Try.isAgg9
  z9 := Try.sizeOf9
  v9 := Try.zeroValue9
  t22 := Try.underlying47
  a22 := Try.isAgg47
  z22 := Try.sizeOf47
  v22 := Try.zeroValue47
  t23 := Try.underlying47
  a23 := Try.isAgg47
  z23 := Try.sizeOf47
  v23 := Try.zeroValue47
  t25 := Try.underlying3
  a25 := Try.isAgg3
  z25 := Try.sizeOf3
  v25 := Try.zeroValue3
  t32 := Try.underlying141
  a32 := Try.isAgg141
  z32 := Try.sizeOf141
  v32 := Try.zeroValue141
  t35 := Try.underlying234
  a35 := Try.isAgg234
  z35 := Try.sizeOf234
  v35 := Try.zeroValue234
  t36 := Try.underlying235
  a36 := Try.isAgg235
  z36 := Try.sizeOf235
  v36 := Try.zeroValue235
  t41 := Try.underlying196
  a41 := Try.isAgg196
  z41 := Try.sizeOf196
  v41 := Try.zeroValue196
  t44 := Try.underlying140
  a44 := Try.isAgg140
  z44 := Try.sizeOf140
  v44 := Try.zeroValue140
  t46 := Try.underlying24
  a46 := Try.isAgg24
  z46 := Try.sizeOf24
  v46 := Try.zeroValue24
  t53 := Try.underlying245
  a53 := Try.isAgg245
  z53 := Try.sizeOf245
  v53 := Try.zeroValue245
  t57 := Try.underlying249
  a57 := Try.isAgg249
  z57 := Try.sizeOf249
  v57 := Try.zeroValue249
  t63 := Try.underlying251
  a63 := Try.isAgg251
  z63 := Try.sizeOf251
  v63 := Try.zeroValue251
  t64 := Try.underlying137
  a64 := Try.isAgg137
  z64 := Try.sizeOf137
  v64 := Try.zeroValue137 }

theorem flat_ints (l : List Int) : flat l = l.map (Value.int .i64) := by
  induction l with
  | nil => rfl
  | cons x l ih => rw [flat_cons, ih]; rfl
theorem sort_own (w : World) (base n : Nat) (A : Option Addr) (c : Nat) (l : List Int) (hn : l.length = n) (h100 : n ≤ 1000000) (h : Own w base 3 A c l) :
    Calls Try.prog 162 #[.slice A n c] w fun e w' => e = .returned (.tuple #[]) ∧ Own w' base 3 A c (l.mergeSort fun x y => decide (x ≤ y)) ∧ w.grownBy w' (rowOf A) := by
  subst hn
  rcases h.2 with ⟨h1, h0⟩ | ⟨g, cap, cur, hv, hg, hh, hn, hcap, hsz, htk⟩
  · injection h1 with h1 h2 h3
    subst h1 h3
    have hl : l = [] := List.length_eq_zero_iff.1 h2
    subst hl
    have hcon := AnyM.slices_Sort_int_none srtL none 0 w
    change Calls Try.prog 162 _ _ _ at hcon
    refine hcon.mono ?_
    rintro e w' ⟨rfl, rfl⟩
    exact ⟨rfl, by simpa using h, World.grownBy.refl _ _⟩
  · injection hv with hv h2 h3
    subst hv h3
    have hlt := (Array.getElem?_eq_some_iff.1 hh).1
    have htk' : cur.toList.take l.length = l.map (Value.int .i64) := by rw [← flat_ints, ← htk, show Flat.sz Int = 1 from rfl, Nat.mul_one]
    have hcon := AnyM.slices_Sort_int srtL g 0 c l w (holds_of_blockI hh htk') hlt (by omega)
    change Calls Try.prog 162 _ _ _ at hcon
    refine hcon.mono ?_
    rintro e w' ⟨rfl, m, os, rfl⟩
    refine ⟨rfl, ?_, grownBy_sortedI _⟩
    have hl : (l.mergeSort fun x y => decide (x ≤ y)).length = l.length := List.length_mergeSort _
    have := ownsRow_sortedI (n := m) (os := os) (ts := l.mergeSort fun x y => decide (x ≤ y)) hl hg hh hn hcap hsz
    unfold Own
    rw [flat_ints, hl]
    exact this

end Go.Proofs.Ytpkccpegdpodoaa
