/- KT: KpF. -/
import Derived.Test.YtdlcooplllimeaaGreatDoorKT38
/- TopKept. -/
namespace Go.Proofs.YtdlcooplllimeaaGreatDoor
open Go.RowKit

attribute [local go_sem ↓] Go.wp_at_zero Go.wp_at_succ

namespace Top
theorem infoPairT : (Tryz.prog.info? 50).map (fun i => (i.zero, i.size, i.bytes)) = some (some (.agg #[.int .i64 0, .int .i64 0]), 2, 16) := by kernel_rfl
def TrueP (w : World) (e : Ending) (w' : World) : Prop := e = .returned (.bool true) ∧ Below w.heap.size w w'
theorem Blk.st8 {w : World} {g : Nat} {t : TypeId} {a0 a1 a2 a3 a4 a5 a6 a7 : Value} (h : Blk w g t #[a0, a1, a2, a3, a4, a5, a6, a7]) :
    w.cell? ⟨g, 0, none⟩ = some a0 ∧ w.cell? ⟨g, 1, none⟩ = some a1 ∧ w.cell? ⟨g, 2, none⟩ = some a2 ∧ w.cell? ⟨g, 3, none⟩ = some a3 ∧ w.cell? ⟨g, 4, none⟩ = some a4 ∧ w.cell? ⟨g, 5, none⟩ = some a5 ∧ w.cell? ⟨g, 6, none⟩ = some a6 ∧ w.cell? ⟨g, 7, none⟩ = some a7 := h.cells8
set_option maxHeartbeats 6400000 in
set_option maxRecDepth 100000 in
theorem topKept_any (w : World) (B : Nat) (pg : Pg) (s : Stt) (FA KA XA CA SA TA HA EA DA : Option Addr) (fc kc xc cc sc tc hc ec dc : Nat) (hF : At w B FA pg.fns) (hK : At w B KA pg.consts) (hX : At w B XA pg.texts) (hxc : pg.texts.length ≤ xc ∧ xc ≤ maxLen) (h : StP w B s CA SA TA HA EA DA cc sc tc hc ec dc) (hB : B ≤ w.heap.size) (hT : Tabs w)
    (hl1 : ∀ t ∈ s.threads, (frVals t.frames).length + 1 ≤ 1073741824) (hl2 : (roots s).length ≤ 1073741824) (hl3 : s.threads.length ≤ 1073741824 ∧ s.ends.length ≤ 1073741824) (hl4 : s.cells.length ≤ 1073741824) (hl5 : ∀ c ∈ s.cells, c.vals.length + (frVals c.frames).length ≤ 1073741824) :
    Calls Tryz.prog 3 #[.agg #[.slice FA pg.fns.length fc, .slice KA pg.consts.length kc, .slice XA pg.texts.length xc], .agg #[.slice CA s.cells.length cc, .slice SA s.shapes.length sc, .slice TA s.texts.length tc, .slice HA s.threads.length hc, .slice EA s.ends.length ec, .slice DA s.said.length dc, .int .i64 s.asked, .int .i64 s.steps]] w (TrueP w) := by
  obtain ⟨P, hP⟩ : ∃ P, TrueP w = P := ⟨_, rfl⟩
  have HP := Lib.hid hP; rw [hP]; clear hP
  obtain ⟨i0, hi, hz0, hz1, hz2⟩ := info_parts infoPairT
  have hdone : ∀ w', Below w.heap.size w w' → P (.returned (.bool true)) w' := fun w' hb => by rw [← HP.out]; exact ⟨rfl, hb⟩
  have HD := Lib.hid hdone; clear hdone
  have H := Lib.hid (And.intro (hF) (And.intro (hK) (And.intro (hX) (And.intro (hxc) (And.intro (h) (hT))))))
  have HL := Lib.hid (And.intro (hl1) (And.intro (hl2) (And.intro (hl3) (And.intro (hl4) (hl5)))))
  clear hF hK hX hxc h hT hl1 hl2 hl3 hl4 hl5
  go_enter Tryz.func3, Tryz.ntmps3
  go_upto_region 1 with fail
  refine wp_world (fun W => Blk W w.heap.size 26 #[.slice FA pg.fns.length fc, .slice KA pg.consts.length kc, .slice XA pg.texts.length xc] ∧ Blk W (w.heap.size + 1) 32 #[.slice CA s.cells.length cc, .slice SA s.shapes.length sc, .slice TA s.texts.length tc, .slice HA s.threads.length hc, .slice EA s.ends.length ec, .slice DA s.said.length dc, .int .i64 s.asked, .int .i64 s.steps] ∧ Below w.heap.size w W ∧ w.heap.size + 2 ≤ W.heap.size) ⟨?_, ?_, ?_, ?_⟩ ?_
  · exact (Blk.new w _ _).fresh ((Below.refl _ _).alloc (Nat.le_refl _) _)
  · have := Blk.new (w.alloc (.cells #[.slice FA pg.fns.length fc, .slice KA pg.consts.length kc, .slice XA pg.texts.length xc] 26)) 32 #[.slice CA s.cells.length cc, .slice SA s.shapes.length sc, .slice TA s.texts.length tc, .slice HA s.threads.length hc, .slice EA s.ends.length ec, .slice DA s.said.length dc, .int .i64 s.asked, .int .i64 s.steps]
    simpa using this
  · exact ((Below.refl _ _).alloc (Nat.le_refl _) _).alloc (by simp) _
  · simp
  rintro W ⟨hPr, hSt, hbW, hsW⟩
  have hrb := rBoxed_any W
  have HW := Lib.hid (And.intro (hrb) (And.intro (hPr) (And.intro (hSt) (hbW))))
  clear hrb hPr hSt hbW
  go_wp2_with fail
  refine HW.out.1.mono ?_
  rintro e w1 ⟨rfl, hb1⟩
  have hPr := HW.out.2.1.fresh hb1
  have hSt := HW.out.2.2.1.fresh hb1
  have hbw := HW.out.2.2.2.trans (hb1.mono (by omega))
  have hs1 := hb1.size
  have p0 := hPr.cell 0 (v := .slice FA pg.fns.length fc) rfl
  have p1 := hPr.cell 1 (v := .slice KA pg.consts.length kc) rfl
  have p2 := hPr.cell 2 (v := .slice XA pg.texts.length xc) rfl
  obtain ⟨s0, s1, s2, s3, s4, s5, s6, s7⟩ := hSt.cells8
  have hof := of_any w1 B pg s FA KA XA CA SA TA HA EA DA fc kc xc cc sc tc hc ec dc (H.out.1.below (hbw.mono hB)) (H.out.2.1.below (hbw.mono hB)) (H.out.2.2.1.below (hbw.mono hB)) H.out.2.2.2.1 (H.out.2.2.2.2.1.below (hbw.mono hB)) (by omega) (H.out.2.2.2.2.2.fresh hbw)
  have H1 := Lib.hid (And.intro (hof) (And.intro (hSt) (hbw)))
  clear hof hPr hSt hbw hb1
  go_wp2_with fail
  refine H1.out.1.mono ?_
  rintro e w2 ⟨hb2, hcase⟩
  have hSt := H1.out.2.1.fresh hb2
  have hbw := H1.out.2.2.trans (hb2.mono (by omega))
  have hs2 := hb2.size
  have hrg := rGraph_any B cc sc tc hc ec dc CA SA TA HA EA DA s w2 (H.out.2.2.2.2.1.below (hbw.mono hB)) (by omega) HL.out.1 HL.out.2.1 HL.out.2.2.1 HL.out.2.2.2.1 HL.out.2.2.2.2
  clear p0 p1 p2 s0 s1 s2 s3 s4 s5 s6 s7
  obtain ⟨s0, s1, s2, s3, s4, s5, s6, s7⟩ := hSt.cells8
  have H2 := Lib.hid (And.intro (hrg) (And.intro (hSt) (hbw)))
  clear hrg hSt hbw hb2
  rcases hcase with ⟨r, hr, rfl⟩ | ⟨hsc, hso, OA, oc, rfl, hown⟩
  · have dr : (r != 0) = true := by simpa using hr
    clear hr
    go_wp2_with fail
    refine H2.out.1.mono ?_
    rintro e w3 ⟨hb3, hcase⟩
    have hbw := H2.out.2.2.trans (hb3.mono (by omega))
    have hs3 := hb3.size
    clear s0 s1 s2 s3 s4 s5 s6 s7 hb3
    have hrb := fun V => rBoxed_any V
    have HB := Lib.hid (And.intro hrb hbw); clear hrb hbw
    rcases hcase with ⟨GA, gn, gc, GB, gm, gd, rfl⟩ | ⟨-, -, -, GA, gc, GB, gd, rfl, -, -, -, -⟩
    · go_wp2_with fail
      refine (HB.out.1 _).mono ?_
      rintro e w4 ⟨rfl, hb4⟩
      have H4 := Lib.hid hb4; clear hb4
      go_wp2_with fail
      exact HD.out _ ((HB.out.2.alloc (by omega) _).trans (H4.out.mono (by simp; omega)))
    · go_wp2_with fail
      refine (HB.out.1 _).mono ?_
      rintro e w4 ⟨rfl, hb4⟩
      have H4 := Lib.hid hb4; clear hb4
      go_wp2_with fail
      exact HD.out _ ((HB.out.2.alloc (by omega) _).trans (H4.out.mono (by simp; omega)))
  have hok := hso.okr
  obtain ⟨of, hofe⟩ : ∃ of, rising (rcB s) = of := ⟨_, rfl⟩
  rw [hofe] at hown ⊢
  have hofr : ∀ x ∈ of, ∃ n : Nat, x = (n : Int) ∧ n < s.cells.length := fun x hx => by
    rw [← hofe] at hx
    obtain ⟨n, e, hn⟩ := (mem_of hok).1 hx
    exact ⟨n, e, hn.lt hok⟩
  have hofl : of.length ≤ 300 := by
    rw [← hofe]
    have h1 := rising_length (rcB s)
    rw [rcB_length] at h1
    have := hso.many.1; omega
  have hofi : ∀ x ∈ of, I64 x := fun x hx => by
    obtain ⟨n, rfl, hn⟩ := hofr x hx
    have := hso.many.1
    unfold I64; omega
  have HO := Lib.hid (And.intro (hok) (And.intro (hofe) (And.intro (hofr) (And.intro (hofi) (And.intro (hown) (hso))))))
  clear hok hofe hofr hofi hown hsc hso
  go_wp2_with fail
  refine H2.out.1.mono ?_
  rintro e w3 ⟨hb3, hcase⟩
  have hbw := H2.out.2.2.trans (hb3.mono (by omega))
  have hs3 := hb3.size
  have hSt := H2.out.2.1.fresh hb3
  have hO3 := HO.out.2.2.2.2.1.fresh hb3
  have H3 := Lib.hid (And.intro (hbw) (And.intro (hSt) (hO3)))
  clear s0 s1 s2 s3 s4 s5 s6 s7 hb3 hbw hSt hO3
  have hrb := fun V => rBoxed_any V
  have HB := Lib.hid hrb; clear hrb
  rcases hcase with ⟨GA, gn, gc, GB, gm, gd, rfl⟩ | ⟨k1, k2, k3, GA, gc, GB, gd, rfl, hga, hgb, hgd⟩
  · go_wp2_with fail
    refine (HB.out _).mono ?_
    rintro e w4 ⟨rfl, hb4⟩
    have H4 := Lib.hid hb4; clear hb4
    go_wp2_with fail
    exact HD.out _ ((H3.out.1.alloc (by omega) _).trans (H4.out.mono (by simp; omega)))
  go_upto_region 8 with fail
  refine wp_world (fun U => Blk U w3.heap.size 40 #[.slice GA s.cells.length gc, .slice GB (roots s).length gd] ∧ Below w3.heap.size w3 U ∧ w3.heap.size + 1 ≤ U.heap.size) ⟨Blk.new _ _ _, (Below.refl _ _).alloc (Nat.le_refl _) _, by simp⟩ ?_
  rintro U ⟨hG, hbU, hsU⟩
  have hbwU := H3.out.1.trans (hbU.mono (by omega))
  have hatO : At U U.heap.size OA of := (H3.out.2.2.fresh hbU).at_ HO.out.2.2.2.1
  have hGa : At U U.heap.size GA (has s) := (hga.below hbU).more (by omega)
  have hGb : At U U.heap.size GB (roots s) := (hgb.below hbU).more (by omega)
  have HU := Lib.hid (And.intro (hG) (And.intro (hbwU) (And.intro (hatO) (And.intro (hGa) (And.intro (hGb) (And.intro ((H3.out.2.1.fresh hbU)) (k3)))))))
  clear hG hbU hbwU hatO hGa hGb hga hgb k3
  have hmany : s.cells.length ≤ 300 := by omega
  have hUw := HU.out.2.1.size
  go_wp2_with fail
  go_loopg [9, 38] (of.length) (fun gk ov iv wr => ∃ (k : Nat) (PA : Option Addr) (pc : Nat) (prs : List (Int × Int)), k ≤ of.length ∧ gk = of.length - k ∧ iv = .int .i64 k ∧ ov = .slice PA prs.length pc ∧ prs.length ≤ 300 * k ∧ Hid (prs = pairsOf s (of.take k) ∧ Own wr U.heap.size 50 PA pc prs ∧ ∀ x ∈ prs, Flat.ok x) ∧ Below U.heap.size U wr)
  case atStart => exact ⟨0, none, 0, [], Nat.zero_le _, rfl, rfl, rfl, Nat.zero_le _, ⟨rfl, Own.nil_, fun x hx => by cases hx⟩, Below.refl _ _⟩
  case round =>
    obtain ⟨k, PA, pc, prs, hk, rfl, rfl, rfl, hpl, hkeep, hbl⟩ := hrel
    have hsz := hbl.size
    by_cases hlt : k < of.length
    · obtain ⟨b, o, xi, rfl, hb, hx, q0⟩ := (HU.out.2.2.1.below hbl).int_ hlt
      obtain ⟨n, rfl, hnl⟩ := HO.out.2.2.1 xi (List.mem_of_getElem? hx)
      have hStr := HU.out.2.2.2.2.2.1.fresh hbl
      have s0 := hStr.cell 0 (v := .slice CA s.cells.length cc) rfl
      obtain ⟨b2, o2, c, VA, vc, FA', fcc, rfl, hb2, hc, c0, c1, c2, c3, aV, lV, aF, lF, j0, j1⟩ := (H.out.2.2.2.2.1.a1.below ((HU.out.2.1.trans (hbl.mono (by omega))).mono hB)).ce_ hnl
      have hcm := List.mem_of_getElem? hc
      have hnx := pairsOf_next hx hc
      have hvl : c.vals.length ≤ 600 := by rcases HO.out.2.2.2.2.2.vlen c hcm with h | h <;> omega
      have hev := HO.out.2.2.2.2.2.weak c hcm
      have hk0 : (0 : Int) ≤ (k : Int) := by omega
      have hk1 : (k : Int) < (of.length : Int) := by omega
      have n0 : (0 : Int) ≤ (n : Int) := by omega
      have n1 : (n : Int) < (s.cells.length : Int) := by omega
      have aV0 : At w B VA c.vals := aV.keep (fun p hp => (Below.cells ((HU.out.2.1.trans (hbl.mono (by omega))).mono hB) p hp).symm)
      have HX := Lib.hid (And.intro (hnx) (And.intro (hev) (And.intro (aV0) (And.intro (hkeep.out) (hbl)))))
      clear hx hc hcm hnx hev aV aF aV0 hkeep hbl hStr j0 j1
      go_upto_region 12 with fail
      refine wp_world (fun V => Blk V wr.heap.size 46 #[.int .i64 c.kind, .int .i64 c.num, .slice VA c.vals.length vc, .slice FA' c.frames.length fcc] ∧ Below wr.heap.size wr V ∧ wr.heap.size + 1 ≤ V.heap.size) ⟨Blk.new _ _ _, (Below.refl _ _).alloc (Nat.le_refl _) _, by simp⟩ ?_
      rintro V ⟨hC, hbV, hsV⟩
      clear c0 c1 c2 c3 s0 q0
      obtain ⟨cb, hcb⟩ : ∃ cb, wr.heap.size = cb := ⟨_, rfl⟩
      have hcbU : U.heap.size ≤ cb := by omega
      have HV := Lib.hid (And.intro (hC) (And.intro ((HX.out.2.2.2.1.2.1.fresh hbV)) ((HX.out.2.2.2.2.trans (hbV.mono hsz)))))
      rw [hcb] at HV ⊢
      clear hC hbV hcb
      go_wp2_with fail
      go_loopg [9, 13] (c.vals.length) (fun gi ov iv wi => ∃ (i m : Nat) (PA : Option Addr) (pc : Nat) (prs : List (Int × Int)), m ≤ c.vals.length ∧ gi = c.vals.length - m ∧ iv = .int .i64 m ∧ ov = .slice PA prs.length pc ∧ prs.length ≤ 300 * k + i ∧ Hid (m = 2 * i ∧ prs = pairsOf s (of.take k) ++ (if c.kind = 7 then prL (c.vals.take (2 * i)) else []) ∧ Own wi U.heap.size 50 PA pc prs ∧ (∀ x ∈ prs, Flat.ok x) ∧ Blk wi cb 46 #[.int .i64 c.kind, .int .i64 c.num, .slice VA c.vals.length vc, .slice FA' c.frames.length fcc]) ∧ Below U.heap.size U wi)
      case atStart => exact ⟨0, 0, PA, pc, prs, Nat.zero_le _, rfl, rfl, rfl, by omega, ⟨rfl, by rw [HX.out.2.2.2.1.1]; simp [prL], HV.out.2.1, HX.out.2.2.2.1.2.2, HV.out.1⟩, HV.out.2.2⟩
      case round =>
        obtain ⟨i, m, PA, pc, prs, hm, rfl, rfl, rfl, hpl, hkeep, hbl⟩ := hrel
        have e0 := hkeep.out.2.2.2.2.cell 0 (v := .int .i64 c.kind) rfl
        have e2 := hkeep.out.2.2.2.2.cell 2 (v := .slice VA c.vals.length vc) rfl
        have hszi := hbl.size
        by_cases h7 : c.kind = 7
        · have d7 : (c.kind == 7) = true := by rw [h7]; rfl
          by_cases hm1 : m + 1 < c.vals.length
          · obtain ⟨b5, o5, kx, hA5, hb5, hk5, v0, v1, ik0, ik1⟩ := (HX.out.2.2.1.below ((HU.out.2.1.trans (hbl.mono (by omega))).mono hB)).pairT (show m < c.vals.length by omega)
            obtain ⟨b6, o6, vx, hA6, hb6, hv6, v2, v3, iv0, iv1⟩ := (HX.out.2.2.1.below ((HU.out.2.1.trans (hbl.mono (by omega))).mono hB)).pairT hm1
            rw [hA5] at hA6; injection hA6 with hA6; injection hA6 with z1 z2; subst z1 z2
            subst hA5
            have hm2 := hkeep.out.1
            obtain ⟨kf, kn⟩ := kx
            have hkf : kf = 5 := (HX.out.2.1 h7).1 i _ (by rw [← hm2]; exact hk5)
            subst hkf
            have dk : ((5 : Int) == 5) = true := rfl
            have dm : decide (m + 1 < c.vals.length) = true := decide_eq_true hm1
            have hptk := prL_take c.vals i (5, kn) vx (by rw [← hm2]; exact hk5) (by rw [← hm2]; exact hv6)
            have m0 : (0 : Int) ≤ (m : Int) := by omega
            have m1 : (m : Int) < (c.vals.length : Int) := by omega
            have m2 : (m : Int) + 1 < (c.vals.length : Int) := by omega
            have m3 : (0 : Int) ≤ (m : Int) + 1 := by omega
            obtain ⟨vk, vn⟩ := vx
            have hil : i ≤ 300 := by omega
            by_cases h5 : vk = 5
            · have d5 : (vk == 5) = true := by rw [h5]; rfl
              have hprs : prs ++ [(kn, vn)] = pairsOf s (of.take k) ++ (if c.kind = 7 then prL (c.vals.take (2 * (i + 1))) else []) := by
                rw [hkeep.out.2.1, if_pos h7, if_pos h7, hptk, if_pos ⟨rfl, h5⟩, List.append_assoc]
              have hoks : ∀ x ∈ prs ++ [(kn, vn)], Flat.ok x := fun x hx => (List.mem_append.1 hx).elim (hkeep.out.2.2.2.1 x) (fun h => by simp at h; subst h; exact ⟨ik1, iv1⟩)
              have hCd : Blk wr.drew cb 46 #[.int .i64 c.kind, .int .i64 c.num, .slice (some ⟨b5, o5, none⟩) c.vals.length vc, .slice FA' c.frames.length fcc] := hkeep.out.2.2.2.2
              have hOd : Own wr.drew U.heap.size 50 PA pc prs := hkeep.out.2.2.1
              have hwr : IntKind.i64.wrap ((m : Int) + 1) = (m : Int) + 1 := by rw [IntWalk.i64_in _ (by omega)]
              have hwx : b5 < wr.drew.heap.size := by show b5 < wr.heap.size; omega
              have w1d : wr.drew.cell? ⟨b5, o5 + m * 2 + 1, none⟩ = some (.int .i64 kn) := v1
              have w3d : wr.drew.cell? ⟨b5, o5 + (m + 1) * 2 + 1, none⟩ = some (.int .i64 vn) := v3
              have hba : Below wr.drew.heap.size wr.drew (wr.drew.alloc (.cells #[.int .i64 kn, .int .i64 vn] 50)) := (Below.refl _ _).alloc (Nat.le_refl _) _
              have hCa := hCd.fresh hba
              have hOa := hOd.fresh hba
              have w1a := (hba.cell (p := ⟨b5, o5 + m * 2 + 1, none⟩) hwx).trans w1d
              have w3a := (hba.cell (p := ⟨b5, o5 + (m + 1) * 2 + 1, none⟩) hwx).trans w3d
              have hrow : ∀ g, rowOf PA = some g → U.heap.size ≤ g := fun g hg => (hOd.lt g hg).1
              have hnb : some b5 ≠ rowOf PA := fun e => by have := hrow b5 e.symm; omega
              have hbUd : Below U.heap.size U (wr.drew.alloc (.cells #[.int .i64 kn, .int .i64 vn] 50)) := (hbl.drew).alloc (show U.heap.size ≤ wr.heap.size from hszi) _
              have hua : U.heap.size ≤ (wr.drew.alloc (.cells #[.int .i64 kn, .int .i64 vn] 50)).heap.size := hbUd.size
              have HE := Lib.hid (And.intro (hprs) (And.intro (hoks) (And.intro (hCd) (And.intro (hCa) (And.intro (hOa) (And.intro (hbUd) (And.intro (hm2) ((And.intro ik1 iv1)))))))))
              clear hprs hoks hOd hba hCa hOa hbUd hkeep h7 h5 hm2 hptk hk5 hv6 hrow ik0 ik1 iv0 iv1 hCd
              go_wp2_with fail
              refine wp_region_held_drew (S := (fun w' => w'.cell? ⟨cb, 2, none⟩ = some (.slice (some ⟨b5, o5, none⟩) c.vals.length vc) ∧ w'.cell? ⟨b5, o5 + m * 2 + 1, none⟩ = some (.int .i64 kn) ∧ w'.cell? ⟨b5, o5 + (m + 1) * 2 + 1, none⟩ = some (.int .i64 vn))) (by kernel_rfl) ?_ (fun hHeld0 => ?_)
              · first | trivial | ((try dsimp only); (first | exact ⟨HE.out.2.2.1.cell 2 rfl, w1d, w3d⟩ | exact ⟨HE.out.2.2.2.1.cell 2 rfl, w1a, w3a⟩ | exact ⟨hC9.cell 2 rfl, w1b, w3b⟩))
              refine htk 0 rfl ?_
              try go_frame
              refine htk 1 rfl ?_
              try go_frame
              refine htk 2 rfl ?_
              try go_frame
              refine htk 3 rfl ?_
              try go_frame
              refine htk 4 rfl ?_
              try go_frame
              refine htk 5 rfl ?_
              try go_frame
              refine htk 6 rfl ?_
              try go_frame
              refine htk 7 rfl ?_
              try go_frame
              refine htk 8 rfl ?_
              try go_frame
              refine htk 9 rfl ?_
              try go_frame
              refine htk 10 rfl ?_
              try go_frame
              refine htk 11 rfl ?_
              try go_frame
              refine htk 12 rfl ?_
              try go_frame
              refine htk 13 rfl ?_
              try go_frame
              refine htk 14 rfl ?_
              try go_frame
              refine held_call 15 (by kernel_rfl) rfl (fun K hK => ?_)
              go_simp
              refine hK.out _ _ ?_ (fun hHeld1 => ?_)
              · first | trivial | ((try dsimp only); (first | exact ⟨HE.out.2.2.1.cell 2 rfl, w1d, w3d⟩ | exact ⟨HE.out.2.2.2.1.cell 2 rfl, w1a, w3a⟩ | exact ⟨hC9.cell 2 rfl, w1b, w3b⟩))
              clear hK K hHeld0
              try go_frame
              refine held_call 16 (by kernel_rfl) rfl (fun K hK => ?_)
              refine step_app (α := Int × Int) (n := prs.length) (m := 1) (nm := prs.length + 1) (r := [(kn, vn)]) (by rfl) (.tmp 77) (.tmp 92) _ (by rfl) U.heap.size 50 i0 _ 16 Tryz.underlying43 hi hz0 hz1 hz2 rfl (by decide) pair_oneT (by rfl) rfl HE.out.2.2.2.2.1 (by rfl) (At.built wr.drew _ _ [(kn, vn)] rfl (by intro z hz; simp at hz; subst hz; exact HE.out.2.2.2.2.2.2.2)) rfl rfl (by omega) (by simp only [maxLen]; omega) hua ?_; intro A9 c9 w9 hown9 hgr9 hat9; have hC9 := HE.out.2.2.2.1.grown hgr9 (own_ne_ty HE.out.2.2.2.2.1 HE.out.2.2.2.1 (by decide)); have w1b := hgr9.cell w1a hnb; have w3b := hgr9.cell w3a hnb; have hb9 := HE.out.2.2.2.2.2.1.grown hgr9 hua (fun g hg => (HE.out.2.2.2.2.1.lt g hg).1)
              refine hK.out _ _ ?_ (fun hHeld2 => ?_)
              · first | trivial | ((try dsimp only); (first | exact ⟨HE.out.2.2.1.cell 2 rfl, w1d, w3d⟩ | exact ⟨HE.out.2.2.2.1.cell 2 rfl, w1a, w3a⟩ | exact ⟨hC9.cell 2 rfl, w1b, w3b⟩))
              clear hK K hHeld1
              try go_frame
              refine htk 17 rfl ?_
              try go_frame
              refine wpAnyH_done (by kernel_rfl) ?_ _
              have H9 := Lib.hid (And.intro hown9 (And.intro hC9 hb9)); clear hown9 hgr9 hat9 hb9 w1d w3d w1a w3a w1b w3b hC9 hwr
              go_wp2_with fail
              go_roundg (c.vals.length - (m + 2))
              case measure => omega
              case rel => exact ⟨i + 1, m + 2, A9, c9, _, by omega, rfl, by go_num, by rw [List.length_append]; rfl, by simp; omega, ⟨by have := HE.out.2.2.2.2.2.2.1; omega, HE.out.1, H9.out.1, HE.out.2.1, H9.out.2.1⟩, H9.out.2.2⟩
            · have d5 : (vk == 5) = false := by simpa using h5
              have hprs : prs = pairsOf s (of.take k) ++ (if c.kind = 7 then prL (c.vals.take (2 * (i + 1))) else []) := by
                rw [hkeep.out.2.1, if_pos h7, if_pos h7, hptk, if_neg (fun e => h5 e.2), List.append_nil]
              have HE := Lib.hid (And.intro (hprs) (And.intro (hm2) (hkeep.out.2.2)))
              clear hprs hm2 hkeep h7 h5 hptk hk5 hv6 ik0 ik1 iv0 iv1
              go_wp2_with fail
              go_roundg (c.vals.length - (m + 2))
              case measure => omega
              case rel => exact ⟨i + 1, m + 2, PA, pc, prs, by omega, rfl, by go_num, rfl, by omega, ⟨by have := HE.out.2.1; omega, HE.out.1, HE.out.2.2.1, HE.out.2.2.2.1, HE.out.2.2.2.2⟩, hbl⟩
          · have hml : m = c.vals.length := by have h1 := hkeep.out.1; have h2 := (HX.out.2.1 h7).2; omega
            have hfin : prs = pairsOf s (of.take (k + 1)) := by
              rw [hkeep.out.2.1, HX.out.1, if_pos h7, ← hkeep.out.1, hml, List.take_length]; unfold cPairs; rw [if_pos h7]
            have hil : i ≤ 300 := by have := hkeep.out.1; omega
            have dm : decide (m + 1 < c.vals.length) = false := decide_eq_false hm1
            have HF := Lib.hid (And.intro (hfin) (And.intro (hkeep.out.2.2.1) (hkeep.out.2.2.2.1)))
            clear hfin hkeep h7 hml
            go_wp2_with fail
            go_roundg (of.length - (k + 1))
            case measure => omega
            case rel => exact ⟨k + 1, PA, pc, prs, by omega, rfl, by go_num, rfl, by omega, ⟨HF.out.1, HF.out.2.1, HF.out.2.2⟩, hbl⟩
        · have d7 : (c.kind == 7) = false := by simpa using h7
          have hfin : prs = pairsOf s (of.take (k + 1)) := by
            rw [hkeep.out.2.1, HX.out.1, if_neg h7]; unfold cPairs; rw [if_neg h7]
          have hil : i ≤ 300 := by have := hkeep.out.1; omega
          have HF := Lib.hid (And.intro (hfin) (And.intro (hkeep.out.2.2.1) (hkeep.out.2.2.2.1)))
          clear hfin hkeep h7
          go_wp2_with fail
          go_roundg (of.length - (k + 1))
          case measure => omega
          case rel => exact ⟨k + 1, PA, pc, prs, by omega, rfl, by go_num, rfl, by omega, ⟨HF.out.1, HF.out.2.1, HF.out.2.2⟩, hbl⟩
    · have hke : of.take k = of := List.take_of_length_le (by omega)
      have hkp := hkeep.out
      rw [hke] at hkp
      have hGr := HU.out.1.fresh hbl
      have g0 := hGr.cell 0 (v := .slice GA s.cells.length gc) rfl
      have g1 := hGr.cell 1 (v := .slice GB (roots s).length gd) rfl
      have hga := HU.out.2.2.2.1.below hbl
      have hgb := HU.out.2.2.2.2.1.below hbl
      have hatO := HU.out.2.2.1.below hbl
      have hbw := HU.out.2.1.trans (hbl.mono (by omega))
      have hpa := hkp.2.1.at_ hkp.2.2
      have HK := Lib.hid (And.intro (hkp.1) (And.intro (hga) (And.intro (hgb) (And.intro (hatO) (And.intro (hbw) (hpa))))))
      clear hkp hke hga hgb hatO hbw hpa hkeep hbl hGr
      by_cases h50 : 50 < prs.length
      · have d50 : decide ((50 : Int) < (prs.length : Int)) = true := decide_eq_true (by omega)
        clear h50
        go_wp2_with fail
        refine (HB.out _).mono ?_
        rintro e w4 ⟨rfl, hb4⟩
        have H4 := Lib.hid hb4; clear hb4
        go_wp2_with fail
        exact HD.out _ (HK.out.2.2.2.2.1.trans (H4.out.mono (by omega)))
      · have d50 : decide ((50 : Int) < (prs.length : Int)) = false := decide_eq_false (by omega)
        have hli := lives_any wr.heap.size gc gd pc GA GB PA (has s) (roots s) prs wr (HK.out.2.1.more (by omega)) (HK.out.2.2.1.more (by omega)) HK.out.2.2.2.2.2 (Nat.le_refl _) (by rw [has_length]; omega) (by omega) (by omega) hgd
        rw [has_length] at hli
        have herr : prErr (has s) (roots s) prs = 0 := by
          rw [HK.out.1] at h50 ⊢
          refine prErr_of (by rw [has_length]; exact k1) k2 (fun l hl => ?_) (has_right HO.out.1) (by rw [has_length]; exact HO.out.1.roots) (by omega) (by rw [has_length]; exact pairs_right HO.out.1 of)
          unfold has at hl
          obtain ⟨c, hc, rfl⟩ := List.mem_map.1 hl
          exact HU.out.2.2.2.2.2.2 c hc
        have hfrom : rising (fromL (has s) (roots s) prs) = of := by rw [HK.out.1, ← HO.out.2.1, live_eq HO.out.1]
        have HLi := Lib.hid (And.intro (hli) (And.intro (herr) (hfrom)))
        clear hli herr hfrom h50
        go_wp2_with fail
        refine HLi.out.1.mono ?_
        rintro e w5 ⟨hb5, hcase⟩
        have hbw5 := HK.out.2.2.2.2.1.trans (hb5.mono (by omega))
        have hs5 := hb5.size
        have hatO5 : At w5 U.heap.size OA of := HK.out.2.2.2.1.below (hb5.mono (by omega))
        rcases hcase with ⟨-, LA, lc, rfl, hown5⟩ | ⟨hne, -⟩
        · rw [HLi.out.2.2] at hown5 ⊢
          have hatL := hown5.at_ HO.out.2.2.2.1
          have H5 := Lib.hid (And.intro (hbw5) (And.intro (hatO5) (hatL)))
          clear hown5 hbw5 hatO5 hatL hb5 g0 g1
          go_wp2_with fail
          refine (HB.out _).mono ?_
          rintro e w6 ⟨rfl, hb6⟩
          have hs6 := hb6.size
          have heq := eqInt_n LA OA lc oc w6.heap.size of.length of.length of of w6 rfl rfl ((H5.out.2.2.below hb6).more hs6) ((H5.out.2.1.below (hb6.mono (by omega))).more (by omega)) (by omega)
          rw [decide_eq_true rfl] at heq
          have H6 := Lib.hid (And.intro (heq) ((H5.out.1.trans (hb6.mono (by omega)))))
          clear heq hb6
          go_wp2_with fail
          refine H6.out.1.mono ?_
          rintro e w7 ⟨rfl, rfl⟩
          go_wp2_with fail
          exact HD.out _ H6.out.2
        · exact absurd HLi.out.2.1 hne
end Top
end Go.Proofs.YtdlcooplllimeaaGreatDoor
