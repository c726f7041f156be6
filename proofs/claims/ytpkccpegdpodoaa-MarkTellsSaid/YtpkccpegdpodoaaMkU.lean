/- R.Model: Marks, of a holding. -/
import Derived.Test.YtpkccpegdpodoaaMkT
namespace Go.Proofs.Ytpkccpegdpodoaa
open Go.RowKit

attribute [local go_sem ↓] Go.wp_at_zero Go.wp_at_succ

theorem rhold_fin {w : World} {base p t g c : Nat} {F : Nat → Prop} {nu kind : Int} {mk b : Bool} {s : List It} {l : List ItR} (h : MdlL w base F p nu kind mk (some ⟨g, 0, none⟩) c s l) (ht : t < s.length) :
    Mdl (w.setCell ⟨g, t * 3 + 2, none⟩ (.bool b)) base F p nu kind mk (s.modify t (It.sethl b)) ∧ F g ∧ (∃ v, w.cell? ⟨g, t * 3 + 2, none⟩ = some (.bool v)) ∧ w.frozen? ⟨g, t * 3 + 2, none⟩ = false ∧ w.cell? ⟨p, 0, none⟩ = some (.slice (some ⟨g, 0, none⟩) s.length c) := by
  obtain ⟨h1, h2, h3, h4, h5⟩ := h
  have hl : l.length = s.length := by rw [← h5, its_length]
  obtain ⟨x, hx⟩ : ∃ x, l[t]? = some x := ⟨_, List.getElem?_eq_getElem (by omega)⟩
  obtain ⟨g', hgg, -, -, -, -, q2⟩ := h2.cells hx
  injection hgg with hgg; injection hgg with hgg; subst hgg
  have hset := h2.setHeld hx (by decide) b
  have hits := its_set l t x { x with held := b } (It.sethl b) hx rfl
  rw [h5] at hits
  have hne : p ≠ g := fun e => own_ne_ty h2.row h1 (by decide) (by rw [← e]; rfl)
  exact ⟨⟨_, c, _, by rw [List.length_set]; exact h1.far (p := ⟨g, t * 3 + 2, none⟩) hne _, hset, h3, h4, hits⟩, h2.foot g rfl, ⟨_, q2⟩, h2.row.frozen rfl _, by rw [← hl]; exact h1.cell 0 rfl⟩
theorem marksI_hold (kind : Int) (mk : Bool) (s : List It) (dd a b n : Int) (hd : dd = 4 ∨ dd = 3) : marksI kind mk s ⟨dd, a, b, n⟩ = (0, holdE s ⟨dd, a, b, n⟩, mk, if holdE s ⟨dd, a, b, n⟩ = 0 then holdI kind mk ⟨dd, a, b, n⟩ s else s) := by
  unfold marksI
  rw [if_neg (show ¬ dd = 1 by omega), if_neg (show ¬ dd = 2 by omega), if_pos hd]
  split
  · rename_i hq; first | rfl | rw [if_neg hq]
  · rename_i hq; have hq' : holdE s ⟨dd, a, b, n⟩ = 0 := by simpa using hq
    rw [hq', if_pos rfl]
theorem holdE_zero {s : List It} {d : Dd} (h : holdE s d = 0) : namedE s [d.a] = 0 := by
  unfold holdE at h
  split at h
  · rename_i h1; exact absurd h h1
  · rename_i h1; simpa using h1
theorem Mdl.drew_ {w : World} {base p : Nat} {F : Nat → Prop} {nu kind : Int} {mk : Bool} {s : List It} (h : Mdl w base F p nu kind mk s) : Mdl w.drew base F p nu kind mk s := h.drewN 1

set_option maxHeartbeats 3200000 in
set_option maxRecDepth 100000 in
theorem marks4 (w W : World) (base p : Nat) (F : Nat → Prop) (nu kind a b n : Int) (mk : Bool) (s : List It) (h : MdPre w W base p F nu kind 4 a b n mk s) :
    Calls Try.prog 53 #[.pointer (some ⟨p, 0, none⟩), .agg #[.int .i64 4, .int .i64 a, .int .i64 b, .int .i64 n]] w (MdPost base p F nu kind w (marksI kind mk s ⟨4, a, b, n⟩)) := by
  obtain ⟨P, hP⟩ : ∃ P, MdPost base p F nu kind w (marksI kind mk s ⟨4, a, b, n⟩) = P := ⟨_, rfl⟩
  have HP := Lib.hid hP
  rw [hP]; clear hP
  have hsz := h.siz
  have hr := marksI_hold kind mk s 4 a b n (by decide)
  have H := Lib.hid h; clear h
  by_cases he : holdE s ⟨4, a, b, n⟩ = 0
  · rw [he, if_pos rfl] at hr
    obtain ⟨t, rfl, htl, -⟩ := namedE_zero (holdE_zero he) a (by simp)
    have HR := Lib.hid (And.intro hr (And.intro he htl)); clear hr he htl
    go_enter Try.func53, Try.ntmps53
    go_wp2_with fail
    refine calls_world (fun V => W = V) H.out.eq ?_
    rintro V rfl
    refine (holdFault_any W base p F nu kind 4 (t : Int) b n mk s H.out.st H.out.inv.fine H.out.ia).mono ?_
    rintro e w1 ⟨rfl, hb1⟩
    rw [HR.out.2.1]
    have hs1 := hb1.size
    obtain ⟨A, c, l, m1, m2, m3, m4, m5⟩ := H.out.st.fresh hb1
    have hD1 := H.out.blk.fresh hb1
    have hll : l.length = s.length := by rw [← m5, its_length]
    obtain ⟨L, hL⟩ : ∃ L, s.length = L := ⟨_, rfl⟩
    obtain ⟨x, hx⟩ : ∃ x, l[t]? = some x := ⟨_, List.getElem?_eq_getElem (by have := HR.out.2.2; omega)⟩
    obtain ⟨g, rfl, hg1, hg2, q0, q1, q2⟩ := m2.cells hx
    have p0 := m1.cell 0 (v := .slice (some ⟨g, 0, none⟩) l.length c) rfl
    have p2 := m1.cell 2 (v := .int .i64 kind) rfl
    rw [hll, hL] at p0
    have e0 := hD1.cell 0 (v := .int .i64 4) rfl
    have e1 := hD1.cell 1 (v := .int .i64 (t : Int)) rfl
    have hMl : MdlL w1 base F p nu kind mk (some ⟨g, 0, none⟩) c s l := ⟨m1, m2, m3, m4, m5⟩
    have t0 : (0 : Int) ≤ (t : Int) := by omega
    have t1 : (t : Int) < (L : Int) := by have := HR.out.2.2; omega
    have hnD : ¬ F w.heap.size := fun e => by have := H.out.lt _ e; omega
    have hT1 : Touch F w w1 := Touch.ofBelow (H.out.bel.trans (hb1.mono (by omega)))
    have HX := Lib.hid (And.intro hMl (And.intro hD1 (And.intro hT1 hL))); clear hMl hD1 hT1 m1 m2 m3 m4 m5 hll hx hb1 hL q0 q1 q2
    have hs1000 : s.length ≤ 1000 := by have := H.out.inv.small; omega
    rcases H.out.kd with hk1 | hk2
    · subst hk1
      go_wp2_with fail
      go_quiet (fail)
      go_wp2_with fail
      refine calls_world (fun V => Hid (MdlL V base F p nu 1 mk (some ⟨g, 0, none⟩) c s l ∧ Blk V w.heap.size 97 #[.int .i64 4, .int .i64 (t : Int), .int .i64 b, .int .i64 n] ∧ Touch F w V)) ⟨⟨HX.out.1.1.drewN _, HX.out.1.2.1.drewN _, HX.out.1.2.2⟩, HX.out.2.1.drewN _, HX.out.2.2.1.drewN _⟩ ?_
      rintro V hV
      clear p0 p2 e0 e1
      refine (rshadeL_any V base p F nu 1 (t : Int) mk _ c s l hV.out.1 (.inr ⟨t, rfl, HR.out.2.2⟩) hs1000).mono ?_
      rintro e w5 ⟨rfl, ⟨l5, m5a, m5b⟩, m5c, m5d, m5e⟩
      obtain ⟨f1, f2, ⟨ov, f3⟩, f4, f5⟩ := rhold_fin (t := t) (b := true) m5a (by rw [shadeI_length]; exact HR.out.2.2)
      rw [shadeI_length, HX.out.2.2.2] at f5
      have hd5 := hV.out.2.1.touch m5c hnD
      have e0 := hd5.cell 0 (v := .int .i64 4) rfl
      have e1 := hd5.cell 1 (v := .int .i64 (t : Int)) rfl
      have HQ := Lib.hid (And.intro f1 ((hV.out.2.2.trans m5c).setCell (p := ⟨g, t * 3 + 2, none⟩) f2 (.bool true))); clear f1 f2 m5a m5b m5c m5d m5e hd5
      go_wp2_with fail
      go_still_tail 11, (by kernel_rfl)
      change wpList _ _ _ _ _ (World.drew _)
      go_wp2_with fail
      rw [← HP.out]
      exact MdPost.same (HR.out.1.trans (by unfold holdI; simp)) rfl HQ.out.1.drew_ HQ.out.2.drew
    · subst hk2
      go_wp2_with fail
      go_quiet (fail)
      go_wp2_with fail
      refine wp_world (fun V => Hid (MdlL V base F p nu 2 mk (some ⟨g, 0, none⟩) c s l ∧ Blk V w.heap.size 97 #[.int .i64 4, .int .i64 (t : Int), .int .i64 b, .int .i64 n] ∧ Touch F w V)) ⟨⟨HX.out.1.1.drewN _, HX.out.1.2.1.drewN _, HX.out.1.2.2⟩, HX.out.2.1.drewN _, HX.out.2.2.1.drewN _⟩ ?_
      rintro V hV
      clear p0 p2 e0 e1
      have e0 := hV.out.2.1.cell 0 (v := .int .i64 4) rfl
      have e1 := hV.out.2.1.cell 1 (v := .int .i64 (t : Int)) rfl
      obtain ⟨f1, f2, ⟨ov, f3⟩, f4, f5⟩ := rhold_fin (t := t) (b := true) hV.out.1 HR.out.2.2
      rw [HX.out.2.2.2] at f5
      have HQ := Lib.hid (And.intro f1 (hV.out.2.2.setCell (p := ⟨g, t * 3 + 2, none⟩) f2 (.bool true))); clear f1 f2
      go_still_tail 11, (by kernel_rfl)
      change wpList _ _ _ _ _ (World.drew _)
      go_wp2_with fail
      rw [← HP.out]
      exact MdPost.same (HR.out.1.trans (by unfold holdI; simp)) rfl HQ.out.1.drew_ HQ.out.2.drew
  · rw [if_neg he] at hr
    have d1 : (holdE s ⟨4, a, b, n⟩ == 0) = false := by simpa using he
    obtain ⟨er, her⟩ : ∃ e, holdE s ⟨4, a, b, n⟩ = e := ⟨_, rfl⟩
    rw [her] at hr d1
    have HR := Lib.hid (And.intro hr her); clear hr he her
    go_enter Try.func53, Try.ntmps53
    go_wp2_with fail
    refine calls_world (fun V => W = V) H.out.eq ?_
    rintro V rfl
    refine (holdFault_any W base p F nu kind 4 a b n mk s H.out.st H.out.inv.fine H.out.ia).mono ?_
    rintro e w1 ⟨rfl, hb1⟩
    rw [HR.out.2]
    have hs1 := hb1.size
    have HZ := Lib.hid (And.intro (H.out.st.fresh hb1) (H.out.bel.trans (hb1.mono (by omega)))); clear hb1
    go_wp2_with fail
    rw [← HP.out]
    exact MdPost.same HR.out.1 rfl HZ.out.1 (Touch.ofBelow HZ.out.2)

set_option maxHeartbeats 3200000 in
set_option maxRecDepth 100000 in
theorem marks3 (w W : World) (base p : Nat) (F : Nat → Prop) (nu kind a b n : Int) (mk : Bool) (s : List It) (h : MdPre w W base p F nu kind 3 a b n mk s) :
    Calls Try.prog 53 #[.pointer (some ⟨p, 0, none⟩), .agg #[.int .i64 3, .int .i64 a, .int .i64 b, .int .i64 n]] w (MdPost base p F nu kind w (marksI kind mk s ⟨3, a, b, n⟩)) := by
  obtain ⟨P, hP⟩ : ∃ P, MdPost base p F nu kind w (marksI kind mk s ⟨3, a, b, n⟩) = P := ⟨_, rfl⟩
  have HP := Lib.hid hP
  rw [hP]; clear hP
  have hsz := h.siz
  have hr := marksI_hold kind mk s 3 a b n (by decide)
  have H := Lib.hid h; clear h
  by_cases he : holdE s ⟨3, a, b, n⟩ = 0
  · rw [he, if_pos rfl] at hr
    obtain ⟨t, rfl, htl, -⟩ := namedE_zero (holdE_zero he) a (by simp)
    have HR := Lib.hid (And.intro hr (And.intro he htl)); clear hr he htl
    go_enter Try.func53, Try.ntmps53
    go_wp2_with fail
    refine calls_world (fun V => W = V) H.out.eq ?_
    rintro V rfl
    refine (holdFault_any W base p F nu kind 3 (t : Int) b n mk s H.out.st H.out.inv.fine H.out.ia).mono ?_
    rintro e w1 ⟨rfl, hb1⟩
    rw [HR.out.2.1]
    have hs1 := hb1.size
    obtain ⟨A, c, l, m1, m2, m3, m4, m5⟩ := H.out.st.fresh hb1
    have hD1 := H.out.blk.fresh hb1
    have hll : l.length = s.length := by rw [← m5, its_length]
    obtain ⟨L, hL⟩ : ∃ L, s.length = L := ⟨_, rfl⟩
    obtain ⟨x, hx⟩ : ∃ x, l[t]? = some x := ⟨_, List.getElem?_eq_getElem (by have := HR.out.2.2; omega)⟩
    obtain ⟨g, rfl, hg1, hg2, q0, q1, q2⟩ := m2.cells hx
    have p0 := m1.cell 0 (v := .slice (some ⟨g, 0, none⟩) l.length c) rfl
    have p2 := m1.cell 2 (v := .int .i64 kind) rfl
    rw [hll, hL] at p0
    have e0 := hD1.cell 0 (v := .int .i64 3) rfl
    have e1 := hD1.cell 1 (v := .int .i64 (t : Int)) rfl
    have hMl : MdlL w1 base F p nu kind mk (some ⟨g, 0, none⟩) c s l := ⟨m1, m2, m3, m4, m5⟩
    have t0 : (0 : Int) ≤ (t : Int) := by omega
    have t1 : (t : Int) < (L : Int) := by have := HR.out.2.2; omega
    have hnD : ¬ F w.heap.size := fun e => by have := H.out.lt _ e; omega
    have hT1 : Touch F w w1 := Touch.ofBelow (H.out.bel.trans (hb1.mono (by omega)))
    have HX := Lib.hid (And.intro hMl (And.intro hD1 (And.intro hT1 hL))); clear hMl hD1 hT1 m1 m2 m3 m4 m5 hll hx hb1 hL q0 q1 q2
    have hs1000 : s.length ≤ 1000 := by have := H.out.inv.small; omega
    rcases H.out.kd with hk1 | hk2
    · subst hk1
      go_wp2_with fail
      go_quiet (fail)
      go_wp2_with fail
      refine wp_world (fun V => Hid (MdlL V base F p nu 1 mk (some ⟨g, 0, none⟩) c s l ∧ Blk V w.heap.size 97 #[.int .i64 3, .int .i64 (t : Int), .int .i64 b, .int .i64 n] ∧ Touch F w V)) ⟨⟨HX.out.1.1.drewN _, HX.out.1.2.1.drewN _, HX.out.1.2.2⟩, HX.out.2.1.drewN _, HX.out.2.2.1.drewN _⟩ ?_
      rintro V hV
      clear p0 p2 e0 e1
      have e0 := hV.out.2.1.cell 0 (v := .int .i64 3) rfl
      have e1 := hV.out.2.1.cell 1 (v := .int .i64 (t : Int)) rfl
      obtain ⟨f1, f2, ⟨ov, f3⟩, f4, f5⟩ := rhold_fin (t := t) (b := false) hV.out.1 HR.out.2.2
      rw [HX.out.2.2.2] at f5
      have HQ := Lib.hid (And.intro f1 (hV.out.2.2.setCell (p := ⟨g, t * 3 + 2, none⟩) f2 (.bool false))); clear f1 f2
      go_still_tail 11, (by kernel_rfl)
      change wpList _ _ _ _ _ (World.drew _)
      go_wp2_with fail
      rw [← HP.out]
      exact MdPost.same (HR.out.1.trans (by unfold holdI; simp)) rfl HQ.out.1.drew_ HQ.out.2.drew
    · subst hk2
      go_wp2_with fail
      go_quiet (fail)
      go_wp2_with fail
      refine calls_world (fun V => Hid (MdlL V base F p nu 2 mk (some ⟨g, 0, none⟩) c s l ∧ Blk V w.heap.size 97 #[.int .i64 3, .int .i64 (t : Int), .int .i64 b, .int .i64 n] ∧ Touch F w V)) ⟨⟨HX.out.1.1.drewN _, HX.out.1.2.1.drewN _, HX.out.1.2.2⟩, HX.out.2.1.drewN _, HX.out.2.2.1.drewN _⟩ ?_
      rintro V hV
      clear p0 p2 e0 e1
      refine (rshadeL_any V base p F nu 2 (t : Int) mk _ c s l hV.out.1 (.inr ⟨t, rfl, HR.out.2.2⟩) hs1000).mono ?_
      rintro e w5 ⟨rfl, ⟨l5, m5a, m5b⟩, m5c, m5d, m5e⟩
      obtain ⟨f1, f2, ⟨ov, f3⟩, f4, f5⟩ := rhold_fin (t := t) (b := false) m5a (by rw [shadeI_length]; exact HR.out.2.2)
      rw [shadeI_length, HX.out.2.2.2] at f5
      have hd5 := hV.out.2.1.touch m5c hnD
      have e0 := hd5.cell 0 (v := .int .i64 3) rfl
      have e1 := hd5.cell 1 (v := .int .i64 (t : Int)) rfl
      have HQ := Lib.hid (And.intro f1 ((hV.out.2.2.trans m5c).setCell (p := ⟨g, t * 3 + 2, none⟩) f2 (.bool false))); clear f1 f2 m5a m5b m5c m5d m5e hd5
      go_wp2_with fail
      go_still_tail 11, (by kernel_rfl)
      change wpList _ _ _ _ _ (World.drew _)
      go_wp2_with fail
      rw [← HP.out]
      exact MdPost.same (HR.out.1.trans (by unfold holdI; simp)) rfl HQ.out.1.drew_ HQ.out.2.drew
  · rw [if_neg he] at hr
    have d1 : (holdE s ⟨3, a, b, n⟩ == 0) = false := by simpa using he
    obtain ⟨er, her⟩ : ∃ e, holdE s ⟨3, a, b, n⟩ = e := ⟨_, rfl⟩
    rw [her] at hr d1
    have HR := Lib.hid (And.intro hr her); clear hr he her
    go_enter Try.func53, Try.ntmps53
    go_wp2_with fail
    refine calls_world (fun V => W = V) H.out.eq ?_
    rintro V rfl
    refine (holdFault_any W base p F nu kind 3 a b n mk s H.out.st H.out.inv.fine H.out.ia).mono ?_
    rintro e w1 ⟨rfl, hb1⟩
    rw [HR.out.2]
    have hs1 := hb1.size
    have HZ := Lib.hid (And.intro (H.out.st.fresh hb1) (H.out.bel.trans (hb1.mono (by omega)))); clear hb1
    go_wp2_with fail
    rw [← HP.out]
    exact MdPost.same HR.out.1 rfl HZ.out.1 (Touch.ofBelow HZ.out.2)

end Go.Proofs.Ytpkccpegdpodoaa
