/- R.Model: blacken. -/
import Derived.Test.YtpkccpegdpodoaaMkH
import Derived.BigQuiet
namespace Go.Proofs.Ytpkccpegdpodoaa
open Go.RowKit

attribute [local go_sem ↓] Go.wp_at_zero Go.wp_at_succ

set_option maxHeartbeats 1600000 in
set_option maxRecDepth 100000 in
theorem blacken_any (w : World) (base p : Nat) (F : Nat → Prop) (nu kind : Int) (s : List It) (h : Mdl w base F p nu kind true s) (hi : MInv kind true s) :
    Calls Try.prog 133 #[.pointer (some ⟨p, 0, none⟩)] w fun e w' => e = .returned (.bool (decide (greyAt s < s.length))) ∧ Mdl w' base F p nu kind true (if greyAt s < s.length then stepI s else s) ∧ Touch F w w' := by
  have hah := are_head s
  have hal := are_len s 1
  have hs := hi.small
  have HA := Lib.hid (are_any w base p F nu kind 1 true s h hs)
  obtain ⟨q, hq⟩ : ∃ q, are s 1 = q := ⟨_, rfl⟩
  rw [hq] at hah hal HA
  have HQ := Lib.hid hq; clear hq
  have HI := Lib.hid hi; clear hi
  have HM := Lib.hid h; clear h
  by_cases hg : greyAt s < s.length
  · rw [if_pos hg] at hah
    simp only [if_pos hg, decide_eq_true hg]
    obtain ⟨t, ht⟩ : ∃ t, greyAt s = t := ⟨_, rfl⟩
    rw [ht] at hah hg
    have hq1 : 0 < q.length := by
      rcases Nat.eq_zero_or_pos q.length with h0 | h0
      · rw [List.eq_nil_of_length_eq_zero h0] at hah; cases hah
      · exact h0
    have hq0 : ¬ q.length = 0 := by omega
    have HG := Lib.hid (And.intro hah (And.intro ht hg)); clear hah ht hg
    go_enter Try.func133, Try.ntmps133
    go_wp2_with fail
    refine HA.out.mono ?_
    rintro e w1 ⟨QA, qc, rfl, ho1, hb1⟩
    have hs1 := hb1.size
    obtain ⟨gq, rfl, hgq1, hgq2⟩ := ho1.some_ hq1
    have r0 := ho1.cell_int (i := 0) HG.out.1
    have hM1 := HM.out.fresh hb1
    obtain ⟨A, c, l, m1, m2, m3, m4, m5⟩ := hM1
    have hll : l.length = s.length := by rw [← m5, its_length]
    obtain ⟨L, hL⟩ : ∃ L, l.length = L := ⟨_, rfl⟩
    rw [hL] at m1 hll
    obtain ⟨x, hx⟩ : ∃ x, l[t]? = some x := ⟨_, List.getElem?_eq_getElem (by have := HG.out.2.2; omega)⟩
    obtain ⟨g, rfl, hg1, hg2, q0, q1, q2⟩ := m2.cells hx
    have p0 := m1.cell 0 (v := .slice (some ⟨g, 0, none⟩) L c) rfl
    have zz := m2.row.frozen (g := g) rfl (t * 3 + 1)
    have hplt := m1.lt
    have hst := m2.setSt hx (by decide) 2 (by unfold I64; omega)
    have hblk := m1.far (p := ⟨g, t * 3 + 1, none⟩) (fun e => own_ne_ty m2.row m1 (by decide) (by rw [e]; rfl)) (.int .i64 2)
    have hits := its_set l t x { x with st := 2 } (It.setst 2) hx rfl
    rw [m5] at hits
    obtain ⟨hxo, hxF, hxi, hxs⟩ := m2.sub t x hx
    have hgF := m2.foot g rfl
    have hsx : s[t]? = some x.it := by rw [← m5]; exact its_get hx
    obtain ⟨XA, xc, xh, xs, xb⟩ := x
    simp only at q0 q1 q2 hxo hxi hxs hits hst hsx hxF
    have hxr : ∀ z ∈ xh, z = -1 ∨ ∃ n : Nat, z = (n : Int) ∧ n < s.length := fun z hz => (HI.out.refs _ (List.mem_of_getElem? hsx) z hz).imp id (fun ⟨n, e, e2, _⟩ => ⟨n, e, e2⟩)
    have hx10 : xh.length ≤ 10 := HI.out.long _ (List.mem_of_getElem? hsx)
    have hstep : stepI s = shadeL true xh (s.modify t (It.setst 2)) := by unfold stepI; rw [HG.out.2.1, hsx]; simp [ItR.it]
    have hoW := (IntKeep.set m2.row (by decide) (t * 3 + 1) (.int .i64 2))
    have hxo2 := hxo.intKeep hoW
    have hgqF : gq ≠ g := fun e => own_own_ty m2.row ho1 (by decide) g rfl (by rw [e]; rfl)
    have hr2 : (w1.setCell ⟨g, t * 3 + 1, none⟩ (.int .i64 2)).cell? ⟨gq, 0, none⟩ = some (.int .i64 (t : Int)) := by
      rw [World.cell?_setCell_other _ _ _ _ (fun e => by injection e with e1 e2; exact hgqF e1.symm)]; exact r0
    have hlen1 : (l.set t { A := XA, c := xc, has := xh, st := 2, held := xb }).length = L := by rw [List.length_set]; exact hL
    obtain ⟨xn, hxn⟩ : ∃ n, xh.length = n := ⟨_, rfl⟩
    rw [hxn] at q0 hx10
    have hc0 := hst.cells (i := t) (x := { A := XA, c := xc, has := xh, st := 2, held := xb }) (by rw [List.getElem?_set_self (List.getElem?_eq_some_iff.1 hx).1])
    obtain ⟨g', hgg, -, -, u0, -, -⟩ := hc0
    injection hgg with hgg; injection hgg with hgg; subst hgg
    simp only [hxn] at u0
    have t0 : (0 : Int) ≤ (t : Int) := by omega
    have t1 : (t : Int) < (L : Int) := by have := HG.out.2.2; omega
    have ql0 : (0 : Int) < (q.length : Int) := by omega
    have HW := Lib.hid (And.intro hst (And.intro hblk (And.intro hits (And.intro hxo2 (And.intro hxr (And.intro hstep (And.intro hlen1 (And.intro hxn (And.intro hgF (And.intro m3 hb1))))))))))
    have up0 := hblk.cell 0 (v := .slice (some ⟨g, 0, none⟩) L c) rfl
    have hLs := Nat.le_of_eq hll
    clear hll m1 m2 m3 m5 hst hblk hits hxo hxo2 hxr hstep hx hsx hlen1 hxn hxi hxF hoW ho1 hL q2
    go_wp2_with fail
    go_still_tail 9, (by kernel_rfl)
    change wpList _ _ _ _ _ (World.drew _)
    go_wp2_with fail
    refine wp_world (fun W => Blk W p 95 #[.slice (some ⟨g, 0, none⟩) L c, .int .i64 nu, .int .i64 kind, .bool true] ∧ Its W base F 104 (some ⟨g, 0, none⟩) c (l.set t { A := XA, c := xc, has := xh, st := 2, held := xb }) ∧ Own W base 3 XA xc xh ∧ Touch F w W ∧ W.cell? ⟨gq, 0, none⟩ = some (.int .i64 (t : Int)) ∧ W.cell? ⟨g, t * 3, none⟩ = some (.slice XA xn xc)) ⟨HW.out.2.1.drew, HW.out.1.drew, HW.out.2.2.2.1.drew, ((Touch.ofBelow HW.out.2.2.2.2.2.2.2.2.2.2).setCell HW.out.2.2.2.2.2.2.2.2.1 _).drew, hr2, u0⟩ ?_
    rintro W ⟨v1, v2, v3, v4, v5, v6⟩
    have v0 := v1.cell 0 (v := .slice (some ⟨g, 0, none⟩) L c) rfl
    have hMd : Mdl W base F p nu kind true (s.modify t (It.setst 2)) := ⟨_, c, _, by rw [HW.out.2.2.2.2.2.2.1]; exact v1, v2, HW.out.2.2.2.2.2.2.2.2.2.1, m4, HW.out.2.2.1⟩
    have HV := Lib.hid (And.intro hMd (And.intro v3 v4))
    clear v1 v2 v3 v4 hMd up0 hr2 u0 q0 q1 r0 zz p0
    go_quiet (fail)
    go_wp2_with fail
    go_loopg [31] xn (fun gk iv wr => ∃ k : Nat, k ≤ xn ∧ gk = xn - k ∧ iv = .int .i64 k ∧ Hid (Mdl wr base F p nu kind true (shadeL true (xh.take k) (s.modify t (It.setst 2))) ∧ Own wr base 3 XA xc xh) ∧ Touch F w wr)
    case atStart => exact ⟨0, Nat.zero_le _, rfl, rfl, ⟨HV.out.1.drewN _, HV.out.2.1.drewN _⟩, HV.out.2.2.drewN _⟩
    case round =>
      obtain ⟨k, hk, rfl, rfl, hkeep, hT⟩ := hrel
      by_cases hlt : k < xn
      · obtain ⟨z, hz⟩ : ∃ z, xh[k]? = some z := ⟨_, List.getElem?_eq_getElem (by have := HW.out.2.2.2.2.2.2.2.1; omega)⟩
        obtain ⟨gx, rfl, hx1, hx2⟩ := hkeep.out.2.some_ (by have := HW.out.2.2.2.2.2.2.2.1; omega)
        have z0 := hkeep.out.2.cell_int hz
        have b0 : (0 : Int) ≤ (k : Int) := by omega
        have b1 : (k : Int) < (xn : Int) := by omega
        have hzr := HW.out.2.2.2.2.1 z (List.mem_of_getElem? hz)
        have hsn := shadeL_snoc true xh k z (s.modify t (It.setst 2)) hz
        have hll : (shadeL true (xh.take k) (s.modify t (It.setst 2))).length = s.length := by rw [shadeL_length]; simp
        have hsh := rshade_any wr base p F nu kind z true (shadeL true (xh.take k) (s.modify t (It.setst 2))) hkeep.out.1 (by rw [hll]; exact hzr) (by rw [hll]; omega)
        rw [← hsn] at hsh
        have HS := Lib.hid hsh; clear hsh hsn hz hzr hll
        go_wp2_with fail
        refine HS.out.mono ?_
        rintro e w5 ⟨rfl, h5a, h5b, h5c, h5d⟩
        have HF := Lib.hid (And.intro h5a (And.intro (hkeep.out.2.intKeep h5c) (hT.trans h5b))); clear h5a h5b h5c h5d hkeep z0
        go_wp2_with fail
        go_roundg (xn - (k + 1))
        case measure => omega
        case rel => exact ⟨k + 1, by omega, rfl, by go_num, ⟨HF.out.1, HF.out.2.1⟩, HF.out.2.2⟩
      · have hfin := hkeep.out.1
        rw [List.take_of_length_le (by have := HW.out.2.2.2.2.2.2.2.1; omega), ← HW.out.2.2.2.2.2.1] at hfin
        have HF := Lib.hid hfin; clear hfin hkeep
        go_wp2_with fail
        go_ret
        exact ⟨rfl, HF.out, hT⟩
  · rw [if_neg hg] at hah
    simp only [if_neg hg, decide_eq_false hg]
    have hq0 : q = [] := by
      rcases q with _ | ⟨y, q⟩
      · rfl
      · simp at hah
    subst hq0
    clear hah hg
    go_enter Try.func133, Try.ntmps133
    go_wp2_with fail
    refine HA.out.mono ?_
    rintro e w1 ⟨QA, qc, rfl, ho1, hb1⟩
    have HZ := Lib.hid (And.intro (HM.out.fresh hb1) hb1); clear ho1 hb1
    go_wp2_with fail
    go_ret
    exact ⟨rfl, HZ.out.1, Touch.ofBelow HZ.out.2⟩

end Go.Proofs.Ytpkccpegdpodoaa
