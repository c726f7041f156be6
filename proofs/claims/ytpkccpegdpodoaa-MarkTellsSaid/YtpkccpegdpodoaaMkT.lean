/- R.Model: Marks, of a setting. -/
import Derived.Test.YtpkccpegdpodoaaMkS
namespace Go.Proofs.Ytpkccpegdpodoaa
open Go.RowKit

attribute [local go_sem ↓] Go.wp_at_zero Go.wp_at_succ

theorem rset_fin {w : World} {base p t j gx g c xc : Nat} {F : Nat → Prop} {nu kind dd b sn xs : Int} {mk xb : Bool} {s : List It} {l l5 : List ItR} {xh : List Int}
    (h : MdlL w base F p nu kind mk (some ⟨g, 0, none⟩) c (shadeI mk sn s) l5) (hsa : SameA l l5) (hx : l[t]? = some ⟨some ⟨gx, 0, none⟩, xc, xh, xs, xb⟩) (hl : its l = s) (hj : j < xh.length) (hb : I64 b) (hsn : (if kind = 1 then b else (hasAt s (t : Int)).getD j 0) = sn) :
    Mdl (w.setCell ⟨gx, j, none⟩ (.int .i64 b)) base F p nu kind mk (setI kind mk ⟨dd, (t : Int), b, (j : Int)⟩ s) ∧ F gx ∧ (∃ v, w.cell? ⟨gx, j, none⟩ = some (.int .i64 v)) ∧ w.frozen? ⟨gx, j, none⟩ = false ∧
      w.cell? ⟨p, 0, none⟩ = some (.slice (some ⟨g, 0, none⟩) s.length c) ∧ w.cell? ⟨g, t * 3, none⟩ = some (.slice (some ⟨gx, 0, none⟩) xh.length xc) := by
  obtain ⟨h1, h2, h3, h4, h5⟩ := h
  obtain ⟨x5, hx5, hA, hc⟩ := hsa t _ hx
  simp only at hA hc
  have hsx : s[t]? = some ⟨xh, xs, xb⟩ := by rw [← hl]; exact its_get hx
  have hhas : x5.has = xh := by
    obtain ⟨y, hy, hy2, -⟩ := shadeI_same mk sn hsx
    rw [← h5, its_get hx5] at hy
    injection hy with hy
    rw [← hy] at hy2
    exact hy2
  have hsub := h2.sub t x5 hx5
  have hown := hsub.1
  rw [hA, hc, hhas] at hown
  have hset := h2.setHas hx5 (by decide) hA (j := j) (by rw [hhas]; exact hj) b hb
  have hits := its_set l5 t x5 { x5 with has := x5.has.set j b } (It.sethas j b) hx5 rfl
  rw [h5] at hits
  have hne : p ≠ gx := fun e => own_ne_ty hown h1 (by decide) (by rw [← e]; rfl)
  obtain ⟨g', hgg, -, -, q0, -, -⟩ := h2.cells hx5
  injection hgg with hgg; injection hgg with hgg; subst hgg
  rw [hA, hhas, hc] at q0
  have hll : l5.length = s.length := by rw [← its_length, h5, shadeI_length]
  refine ⟨⟨_, c, _, by rw [List.length_set]; exact h1.far (p := ⟨gx, j, none⟩) hne _, hset, h3, h4, ?_⟩, hsub.2.1 gx (by rw [hA]; rfl), ⟨xh[j], hown.cell_int (List.getElem?_eq_getElem hj)⟩, hown.frozen rfl j, by rw [← hll]; exact h1.cell 0 rfl, q0⟩
  rw [hits]
  unfold setI
  simp only [Int.toNat_natCast]
  rw [hsn]
theorem MdlL.drew_ {w : World} {base p c : Nat} {F : Nat → Prop} {nu kind : Int} {mk : Bool} {A : Option Addr} {s : List It} {l : List ItR} (h : MdlL w base F p nu kind mk A c s l) : MdlL w.drew base F p nu kind mk A c s l := ⟨h.1.drew, h.2.1.drew, h.2.2⟩
theorem marksI_set (kind : Int) (mk : Bool) (s : List It) (a b n : Int) : marksI kind mk s ⟨2, a, b, n⟩ = (0, setE s ⟨2, a, b, n⟩, mk, if setE s ⟨2, a, b, n⟩ = 0 then setI kind mk ⟨2, a, b, n⟩ s else s) := by
  unfold marksI
  rw [if_neg (show ¬ (2 : Int) = 1 by decide), if_pos rfl]
  split
  · rename_i hq; first | rfl | rw [if_neg hq]
  · rename_i hq; have hq' : setE s ⟨2, a, b, n⟩ = 0 := by simpa using hq
    rw [hq', if_pos rfl]
theorem setE_zero {s : List It} {d : Dd} (h : setE s d = 0) : namedE s (setL d) = 0 ∧ 0 ≤ d.n ∧ d.n < ((hasAt s d.a).length : Int) := by
  unfold setE at h
  split at h
  · rename_i h1; exact absurd h h1
  · rename_i h1
    split at h
    · cases h
    · exact ⟨by simpa using h1, by omega, by omega⟩

set_option maxHeartbeats 3200000 in
set_option maxRecDepth 100000 in
theorem marks2 (w W : World) (base p : Nat) (F : Nat → Prop) (nu kind a b n : Int) (mk : Bool) (s : List It) (h : MdPre w W base p F nu kind 2 a b n mk s) :
    Calls Try.prog 53 #[.pointer (some ⟨p, 0, none⟩), .agg #[.int .i64 2, .int .i64 a, .int .i64 b, .int .i64 n]] w (MdPost base p F nu kind w (marksI kind mk s ⟨2, a, b, n⟩)) := by
  obtain ⟨P, hP⟩ : ∃ P, MdPost base p F nu kind w (marksI kind mk s ⟨2, a, b, n⟩) = P := ⟨_, rfl⟩
  have HP := Lib.hid hP
  rw [hP]; clear hP
  have hsz := h.siz
  have hr := marksI_set kind mk s a b n
  have H := Lib.hid h; clear h
  by_cases he : setE s ⟨2, a, b, n⟩ = 0
  · rw [he, if_pos rfl] at hr
    obtain ⟨z1, z2, z3⟩ := setE_zero he
    simp only at z2 z3
    obtain ⟨t, rfl, htl, -⟩ := namedE_zero z1 a (by unfold setL; split <;> simp)
    obtain ⟨j, rfl⟩ := Int.eq_ofNat_of_zero_le z2
    have hbv : b = -1 ∨ ∃ m : Nat, b = (m : Int) ∧ m < s.length := by
      by_cases hb1 : b = -1
      · exact .inl hb1
      · obtain ⟨m, e, e2, -⟩ := namedE_zero z1 b (by unfold setL; rw [if_neg hb1]; simp)
        exact .inr ⟨m, e, e2⟩
    have HR := Lib.hid (And.intro hr (And.intro he (And.intro hbv (And.intro z3 htl)))); clear hr he hbv z1 z2 z3 htl
    go_enter Try.func53, Try.ntmps53
    go_wp2_with fail
    refine calls_world (fun V => W = V) H.out.eq ?_
    rintro V rfl
    refine (setFault_any W base p F nu kind 2 (t : Int) b (j : Int) mk s H.out.st H.out.inv.fine ⟨H.out.ia, H.out.ib, H.out.in_⟩).mono ?_
    rintro e w1 ⟨rfl, hb1⟩
    rw [HR.out.2.1]
    have hs1 := hb1.size
    obtain ⟨A, c, l, m1, m2, m3, m4, m5⟩ := H.out.st.fresh hb1
    have hD1 := H.out.blk.fresh hb1
    have hll : l.length = s.length := by rw [← m5, its_length]
    obtain ⟨L, hL⟩ : ∃ L, s.length = L := ⟨_, rfl⟩
    obtain ⟨x, hx⟩ : ∃ x, l[t]? = some x := ⟨_, List.getElem?_eq_getElem (by have := HR.out.2.2.2.2; omega)⟩
    obtain ⟨g, rfl, hg1, hg2, q0, q1, q2⟩ := m2.cells hx
    have hsx : s[t]? = some x.it := by rw [← m5]; exact its_get hx
    obtain ⟨XA, xc, xh, xs, xb⟩ := x
    simp only at q0 q1 q2
    have hat : hasAt s (t : Int) = xh := by unfold hasAt; rw [Int.toNat_natCast, hsx]; rfl
    have hjx : j < xh.length := by have := HR.out.2.2.2.1; rw [hat] at this; omega
    obtain ⟨gx, rfl, hgx1, hgx2⟩ := (m2.sub t _ hx).1.some_ (by simp only; omega)
    have holdc := (m2.sub t _ hx).1.cell_int (i := j) (List.getElem?_eq_getElem hjx)
    have holdr := H.out.inv.refs _ (List.mem_of_getElem? hsx) (xh[j]) (List.getElem_mem hjx)
    obtain ⟨old, hold⟩ : ∃ o, xh[j] = o := ⟨_, rfl⟩
    simp only [hold] at holdc
    rw [hold] at holdr
    have hgd : (hasAt s (t : Int)).getD j 0 = old := by rw [hat, List.getD_eq_getElem?_getD, List.getElem?_eq_getElem hjx, hold]; rfl
    have hfin := fun (W5 : World) (l5 : List ItR) (sn : Int) (h : MdlL W5 base F p nu kind mk (some ⟨g, 0, none⟩) c (shadeI mk sn s) l5) (hsa : SameA l l5) (hsn : (if kind = 1 then b else (hasAt s (t : Int)).getD j 0) = sn) => rset_fin (dd := 2) h hsa hx m5 hjx H.out.ib hsn
    obtain ⟨xn, hxn⟩ : ∃ n, xh.length = n := ⟨_, rfl⟩
    rw [hxn] at q0 hjx
    simp only [hxn, hL] at hfin
    have p0 := m1.cell 0 (v := .slice (some ⟨g, 0, none⟩) l.length c) rfl
    have p2 := m1.cell 2 (v := .int .i64 kind) rfl
    rw [hll, hL] at p0
    have e1 := hD1.cell 1 (v := .int .i64 (t : Int)) rfl
    have e2 := hD1.cell 2 (v := .int .i64 b) rfl
    have e3 := hD1.cell 3 (v := .int .i64 (j : Int)) rfl
    have hMl : MdlL w1 base F p nu kind mk (some ⟨g, 0, none⟩) c s l := ⟨m1, m2, m3, m4, m5⟩
    have t0 : (0 : Int) ≤ (t : Int) := by omega
    have t1 : (t : Int) < (L : Int) := by have := HR.out.2.2.2.2; omega
    have j0 : (0 : Int) ≤ (j : Int) := by omega
    have j1 : (j : Int) < (xn : Int) := by omega
    have hDlt := hD1.lt
    have hplt := m1.lt
    have hnD : ¬ F w.heap.size := fun e => by have := H.out.lt _ e; omega
    have hT1 : Touch F w w1 := Touch.ofBelow (H.out.bel.trans (hb1.mono (by omega)))
    have HX := Lib.hid (And.intro hMl (And.intro holdr (And.intro hgd (And.intro hfin (And.intro hD1 (And.intro hT1 m3)))))); clear hMl holdr hgd hfin hD1 hT1 m1 m2 m3 m4 m5 hll hx hsx hat hold hxn hb1 hL
    have hs1000 : s.length ≤ 1000 := by have := H.out.inv.small; omega
    rcases H.out.kd with hk1 | hk2
    · subst hk1
      go_wp2_with fail
      refine (rshadeL_any w1 base p F nu 1 b mk _ c s l HX.out.1 HR.out.2.2.1 hs1000).mono ?_
      rintro e w5 ⟨rfl, ⟨l5, m5a, m5b⟩, m5c, m5d, m5e⟩
      obtain ⟨f1, f2, ⟨ov, f3⟩, f4, f5, f6⟩ := HX.out.2.2.2.1 w5 l5 b m5a m5b (by simp)
      have hd5 := HX.out.2.2.2.2.1.touch m5c hnD
      clear e1 e2 e3 p0 p2 q0 q1 q2 holdc
      have e1 := hd5.cell 1 (v := .int .i64 (t : Int)) rfl
      have e2 := hd5.cell 2 (v := .int .i64 b) rfl
      have e3 := hd5.cell 3 (v := .int .i64 (j : Int)) rfl
      have HQ := Lib.hid (And.intro f1 ((HX.out.2.2.2.2.2.1.trans m5c).setCell (p := ⟨gx, j, none⟩) f2 (.int .i64 b))); clear f1 f2 m5a m5b m5c m5d m5e hd5
      go_wp2_with fail
      go_still_tail 14, (by kernel_rfl)
      change wpList _ _ _ _ _ (World.drew _)
      go_wp2_with fail
      rw [← HP.out]
      exact MdPost.same HR.out.1 rfl (HQ.out.1.drewN 1) (HQ.out.2.drewN 1)
    · subst hk2
      go_wp2_with fail
      go_still_tail 14, (by kernel_rfl)
      change wpList _ _ _ _ _ (World.drew _)
      go_wp2_with fail
      refine (rshadeL_any w1.drew base p F nu 2 old mk _ c s l HX.out.1.drew_ (HX.out.2.1.imp id (fun ⟨m, e, e2, _⟩ => ⟨m, e, e2⟩)) hs1000).mono ?_
      rintro e w5 ⟨rfl, ⟨l5, m5a, m5b⟩, m5c, m5d, m5e⟩
      obtain ⟨f1, f2, ⟨ov, f3⟩, f4, f5, f6⟩ := HX.out.2.2.2.1 w5 l5 old m5a m5b (by simp; exact HX.out.2.2.1)
      have hd5 := HX.out.2.2.2.2.1.touch ((Touch.refl F w1).drew.trans m5c) hnD
      clear e1 e2 e3 p0 p2 q0 q1 q2 holdc
      have e1 := hd5.cell 1 (v := .int .i64 (t : Int)) rfl
      have e2 := hd5.cell 2 (v := .int .i64 b) rfl
      have e3 := hd5.cell 3 (v := .int .i64 (j : Int)) rfl
      have HQ := Lib.hid (And.intro f1 ((HX.out.2.2.2.2.2.1.trans ((Touch.refl F w1).drew.trans m5c)).setCell (p := ⟨gx, j, none⟩) f2 (.int .i64 b))); clear f1 f2 m5a m5b m5c m5d m5e hd5
      go_wp2_with fail
      go_still_tail 14, (by kernel_rfl)
      change wpList _ _ _ _ _ (World.drew _)
      go_wp2_with fail
      rw [← HP.out]
      exact MdPost.same HR.out.1 rfl (HQ.out.1.drewN 1) (HQ.out.2.drewN 1)
  · rw [if_neg he] at hr
    have d1 : (setE s ⟨2, a, b, n⟩ == 0) = false := by simpa using he
    obtain ⟨er, her⟩ : ∃ e, setE s ⟨2, a, b, n⟩ = e := ⟨_, rfl⟩
    rw [her] at hr d1
    have HR := Lib.hid (And.intro hr her); clear hr he her
    go_enter Try.func53, Try.ntmps53
    go_wp2_with fail
    refine calls_world (fun V => W = V) H.out.eq ?_
    rintro V rfl
    refine (setFault_any W base p F nu kind 2 a b n mk s H.out.st H.out.inv.fine ⟨H.out.ia, H.out.ib, H.out.in_⟩).mono ?_
    rintro e w1 ⟨rfl, hb1⟩
    rw [HR.out.2]
    have hs1 := hb1.size
    have HZ := Lib.hid (And.intro (H.out.st.fresh hb1) (H.out.bel.trans (hb1.mono (by omega)))); clear hb1
    go_wp2_with fail
    rw [← HP.out]
    exact MdPost.same HR.out.1 rfl HZ.out.1 (Touch.ofBelow HZ.out.2)

end Go.Proofs.Ytpkccpegdpodoaa
