/- KW: ClF, EqJ. -/
import Derived.Test.YtdlcooplllimeaaGreatDoorKW1
import Derived.Test.YtdlcooplllimeaaGreatDoorKT32
import Derived.Test.YtdlcooplllimeaaGreatDoorKT31
/- cells.Check, with the shapes counted. Printed by gencl2.py. -/
namespace Go.Proofs.YtdlcooplllimeaaGreatDoor
open Go.RowKit

attribute [local go_sem ↓] Go.wp_at_zero Go.wp_at_succ

namespace Top
def ClPost2 (s : Stt) (w : World) (e : Ending) (w' : World) : Prop := ∃ r : Int, e = .returned (.int .i64 r) ∧ (r = 0 → ClOk s ∧ s.shapes.length ≤ 100) ∧ Below w.heap.size w w'
set_option maxHeartbeats 3200000 in
set_option maxRecDepth 100000 in
theorem clCheck2_any (w : World) (B : Nat) (s : Stt) (CA SA TA HA EA DA : Option Addr) (cc sc tc hc ec dc : Nat) (h : StP w B s CA SA TA HA EA DA cc sc tc hc ec dc) (hB : B ≤ w.heap.size) (hT : Tabs w) :
    Calls Tryz.prog 31 #[.agg #[.slice CA s.cells.length cc, .slice SA s.shapes.length sc, .slice TA s.texts.length tc, .slice HA s.threads.length hc, .slice EA s.ends.length ec, .slice DA s.said.length dc, .int .i64 s.asked, .int .i64 s.steps]] w (ClPost2 s w) := by
  obtain ⟨P, hP⟩ : ∃ P, ClPost2 s w = P := ⟨_, rfl⟩
  have HP := Lib.hid hP; rw [hP]; clear hP
  have hb0 : Below w.heap.size w (w.alloc (.cells #[.slice CA s.cells.length cc, .slice SA s.shapes.length sc, .slice TA s.texts.length tc, .slice HA s.threads.length hc, .slice EA s.ends.length ec, .slice DA s.said.length dc, .int .i64 s.asked, .int .i64 s.steps] 32)) := (Below.refl _ _).alloc (Nat.le_refl _) _
  have h0 := h.below (hb0.mono hB)
  have hS0 := h0.stA (Blk.new w 32 #[.slice CA s.cells.length cc, .slice SA s.shapes.length sc, .slice TA s.texts.length tc, .slice HA s.threads.length hc, .slice EA s.ends.length ec, .slice DA s.said.length dc, .int .i64 s.asked, .int .i64 s.steps]) (by simp; omega)
  have hlg := cllarge_any _ w.heap.size s hS0
  have H := Lib.hid (And.intro h (And.intro hb0 (And.intro hlg hT))); clear h hb0 h0 hS0 hlg hT
  go_enter Tryz.func31, Tryz.ntmps31
  go_wp2_with fail
  refine H.out.2.2.1.mono ?_
  rintro e w1 ⟨b, rfl, hsm, hb1⟩
  have hbl1 := H.out.2.1.trans (hb1.mono (by simp))
  have hP1 := (Blk.new w 32 #[.slice CA s.cells.length cc, .slice SA s.shapes.length sc, .slice TA s.texts.length tc, .slice HA s.threads.length hc, .slice EA s.ends.length ec, .slice DA s.said.length dc, .int .i64 s.asked, .int .i64 s.steps]).fresh hb1
  have hs1 : w.heap.size + 1 ≤ w1.heap.size := by have := hb1.size; simpa using this
  have hfin : ∀ (r : Int) (w' : World), r ≠ 0 → Below w.heap.size w w' → P (.returned (.int .i64 r)) w' := by
    intro r w' hr hb
    rw [← HP.out]
    exact ⟨r, rfl, fun h => absurd h hr, hb⟩
  have HF := Lib.hid hfin; clear hfin
  cases b with
  | true =>
    have HB := Lib.hid hbl1; clear hbl1 hP1 hb1 hsm
    go_wp2_with fail
    exact HF.out 2 _ (by decide) HB.out
  | false =>
  have h1 := H.out.1.below (hbl1.mono hB)
  have g1 := hP1.cell 1 (v := .slice SA s.shapes.length sc) rfl
  have hsh := shCheck_any SA sc B s.shapes.length s.shapes w1 rfl h1.a2 (by omega) h1.k2
  have H1 := Lib.hid (And.intro hsh (And.intro hbl1 (And.intro hP1 (hsm rfl)))); clear hsh hbl1 hP1 hsm hb1 h1
  go_wp2_with fail
  refine H1.out.1.mono ?_
  rintro e w2 ⟨r, rfl, hsl, hb2⟩
  have HSL := Lib.hid hsl; clear hsl
  have hbl2 := H1.out.2.1.trans (hb2.mono (by omega))
  have hP2 := H1.out.2.2.1.fresh hb2
  have hs2 : w.heap.size + 1 ≤ w2.heap.size := by have := hb2.size; omega
  clear g1
  by_cases hr : r = 0
  · subst hr
    have h2 := H.out.1.below (hbl2.mono hB)
    have g1 := hP2.cell 1 (v := .slice SA s.shapes.length sc) rfl
    have g2 := hP2.cell 2 (v := .slice TA s.texts.length tc) rfl
    have htx := cltexts_any TA tc B s.texts.length s.texts w2 rfl h2.a3 (by omega) (by have := H1.out.2.2.2.2.1; omega) (H.out.2.2.2.fresh hbl2)
    have H2 := Lib.hid (And.intro htx (And.intro hbl2 hP2)); clear htx hbl2 hP2 hb2 h2
    go_wp2_with fail
    refine H2.out.1.mono ?_
    rintro e w3 ⟨b, rfl, hb3⟩
    have hbl3 := H2.out.2.1.trans (hb3.mono (by omega))
    have hP3 := H2.out.2.2.fresh hb3
    have hs3 : w.heap.size + 1 ≤ w3.heap.size := by have := hb3.size; omega
    clear g1 g2
    cases b with
    | false =>
      have HB := Lib.hid hbl3; clear hbl3 hP3 hb3
      go_wp2_with fail
      exact HF.out 3 _ (by decide) HB.out
    | true =>
    have h3 := H.out.1.below (hbl3.mono hB)
    have g1 := hP3.cell 1 (v := .slice SA s.shapes.length sc) rfl
    have hct := ctFShape_any SA sc B 75 s.shapes.length #[.pointer (some ⟨w.heap.size, 0, none⟩)] s.shapes w3 (fun _ => True) rfl h3.a2 (by omega) (by have := h3.k2; unfold maxLen at this; omega) egCk1
      (fun V hV x _ _ _ => clck1_any V w.heap.size s x.1 x.2 ((h3.stA hP3 (by omega)).fresh hV))
    have H3 := Lib.hid (And.intro hct (And.intro hbl3 hP3)); clear hct hbl3 hP3 hb3 h3
    go_wp2_with fail
    refine H3.out.1.mono ?_
    rintro e w4 ⟨b, rfl, -, hb4⟩
    have hbl4 := H3.out.2.1.trans (hb4.mono (by omega))
    have hP4 := H3.out.2.2.fresh hb4
    have hs4 : w.heap.size + 1 ≤ w4.heap.size := by have := hb4.size; omega
    clear g1
    cases b with
    | true =>
      have HB := Lib.hid hbl4; clear hbl4 hP4 hb4
      go_wp2_with fail
      exact HF.out 3 _ (by decide) HB.out
    | false =>
    have h4 := H.out.1.below (hbl4.mono hB)
    have g0 := hP4.cell 0 (v := .slice CA s.cells.length cc) rfl
    have hct := ctFCell_any CA cc B 77 s.cells.length #[.pointer (some ⟨w.heap.size, 0, none⟩)] s.cells w4 (fun c => CeOk s c) rfl h4.a1 (by omega) (by have := H1.out.2.2.2.1; omega) egCk2
      (fun V hV x hx Av Af cv cf a1 l1 a2 l2 _ _ => clck2_any V w.heap.size B cv cf Av Af s x ((h4.stA hP4 (by omega)).fresh hV) a1 l1 a2 l2 (by have := hV.size; omega) (by have := H1.out.2.2.2.2.2.2.2 x hx; unfold ceSmall at this; omega) H1.out.2.2.2.1 ((h4.cap hP4).fresh hP4.lt hV))
    have H4 := Lib.hid (And.intro hct (And.intro hbl4 hP4)); clear hct hbl4 hP4 hb4 h4
    go_wp2_with fail
    refine H4.out.1.mono ?_
    rintro e w5 ⟨b, rfl, hce, hb5⟩
    have hbl5 := H4.out.2.1.trans (hb5.mono (by omega))
    have hP5 := H4.out.2.2.fresh hb5
    have hs5 : w.heap.size + 1 ≤ w5.heap.size := by have := hb5.size; omega
    clear g0
    cases b with
    | true =>
      have HB := Lib.hid hbl5; clear hbl5 hP5 hb5 hce
      go_wp2_with fail
      exact HF.out 3 _ (by decide) HB.out
    | false =>
    have h5 := H.out.1.below (hbl5.mono hB)
    have g5 := hP5.cell 5 (v := .slice DA s.said.length dc) rfl
    have hct := ctFVal_any DA dc B 80 s.said.length #[.pointer (some ⟨w.heap.size, 0, none⟩)] s.said w5 (fun _ => True) rfl h5.a6 (by omega) (by have := H1.out.2.2.2.2.2.1; omega) egCk3
      (fun V hV x _ i1 i2 => clck3_any V w.heap.size s x.1 x.2 ((h5.stA hP5 (by omega)).fresh hV) i1 i2)
    have H5 := Lib.hid (And.intro hct (And.intro hbl5 (And.intro hP5 (hce rfl)))); clear hct hbl5 hP5 hb5 h5 hce
    go_wp2_with fail
    refine H5.out.1.mono ?_
    rintro e w6 ⟨b, rfl, -, hb6⟩
    have hbl6 := H5.out.2.1.trans (hb6.mono (by omega))
    have hP6 := H5.out.2.2.1.fresh hb6
    have hs6 : w.heap.size + 1 ≤ w6.heap.size := by have := hb6.size; omega
    clear g5
    cases b with
    | true =>
      have HB := Lib.hid hbl6; clear hbl6 hP6 hb6
      go_wp2_with fail
      exact HF.out 3 _ (by decide) HB.out
    | false =>
    have h6 := H.out.1.below (hbl6.mono hB)
    have g4 := hP6.cell 4 (v := .slice EA s.ends.length ec) rfl
    have hct := ctFEnd_any EA ec B 83 s.ends.length #[.pointer (some ⟨w.heap.size, 0, none⟩)] s.ends w6 (fun e => fitsS s e.fn) rfl h6.a5 (by omega) (by have := H1.out.2.2.2.2.2.2.1; omega) egCk4
      (fun V hV x _ _ i1 i2 => clck4_any V w.heap.size s x ((h6.stA hP6 (by omega)).fresh hV) H1.out.2.2.2.1 i1 i2)
    have H6 := Lib.hid (And.intro hct hbl6); clear hct hbl6 hP6 hb6 h6
    go_wp2_with fail
    refine H6.out.1.mono ?_
    rintro e w7 ⟨b, rfl, hen, hb7⟩
    have H7 := Lib.hid (And.intro hen (H6.out.2.trans (hb7.mono (by omega)))); clear hen hb7 g4
    cases b with
    | true =>
      go_wp2_with fail
      exact HF.out 3 _ (by decide) H7.out.2
    | false =>
      go_wp2_with fail
      rw [← HP.out]
      exact ⟨0, rfl, fun _ => ⟨⟨H1.out.2.2.2, H5.out.2.2.2, H7.out.1 (by simp)⟩, (HSL.out (by simp)).1⟩, H7.out.2⟩
  · have d0 : (r == 0) = false := by simpa using hr
    have d1 : (r != 0) = true := by simpa using hr
    have HR := Lib.hid (And.intro hr hbl2); clear hr hbl2 hP2 hb2
    go_wp2_with fail
    exact HF.out r _ HR.out.1 HR.out.2
end Top
end Go.Proofs.YtdlcooplllimeaaGreatDoor

/- state.Same: two states that read the same are the same. -/
namespace Go.Proofs.YtdlcooplllimeaaGreatDoor
open Go.RowKit

attribute [local go_sem ↓] Go.wp_at_zero Go.wp_at_succ

namespace Top
structure Sm (w0 : World) (B : Nat) (s : Stt) (CA SA TA HA EA DA : Option Addr) (cc sc tc hc ec dc : Nat) (CA2 SA2 TA2 HA2 EA2 DA2 : Option Addr) (cc2 sc2 tc2 hc2 ec2 dc2 : Nat) (m : World) : Prop where
  a : StP m B s CA SA TA HA EA DA cc sc tc hc ec dc
  b : StP m B s CA2 SA2 TA2 HA2 EA2 DA2 cc2 sc2 tc2 hc2 ec2 dc2
  g1 : Blk m w0.heap.size 32 #[.slice CA s.cells.length cc, .slice SA s.shapes.length sc, .slice TA s.texts.length tc, .slice HA s.threads.length hc, .slice EA s.ends.length ec, .slice DA s.said.length dc, .int .i64 s.asked, .int .i64 s.steps]
  g2 : Blk m (w0.heap.size + 1) 32 #[.slice CA2 s.cells.length cc2, .slice SA2 s.shapes.length sc2, .slice TA2 s.texts.length tc2, .slice HA2 s.threads.length hc2, .slice EA2 s.ends.length ec2, .slice DA2 s.said.length dc2, .int .i64 s.asked, .int .i64 s.steps]
  t : Below w0.heap.size w0 m
theorem Sm.fresh {w0 m m' : World} {B : Nat} {s : Stt} {CA SA TA HA EA DA : Option Addr} {cc sc tc hc ec dc : Nat} {CA2 SA2 TA2 HA2 EA2 DA2 : Option Addr} {cc2 sc2 tc2 hc2 ec2 dc2 : Nat} (h : Sm w0 B s CA SA TA HA EA DA cc sc tc hc ec dc CA2 SA2 TA2 HA2 EA2 DA2 cc2 sc2 tc2 hc2 ec2 dc2 m) (hB : B ≤ w0.heap.size) (hb : Below m.heap.size m m') :
    Sm w0 B s CA SA TA HA EA DA cc sc tc hc ec dc CA2 SA2 TA2 HA2 EA2 DA2 cc2 sc2 tc2 hc2 ec2 dc2 m' := by
  have := h.t.size
  exact ⟨h.a.below (hb.mono (by omega)), h.b.below (hb.mono (by omega)), h.g1.fresh hb, h.g2.fresh hb, h.t.trans (hb.mono this)⟩
set_option maxHeartbeats 1600000 in
set_option maxRecDepth 100000 in
theorem same_any (B : Nat) (s : Stt) (CA SA TA HA EA DA : Option Addr) (cc sc tc hc ec dc : Nat) (CA2 SA2 TA2 HA2 EA2 DA2 : Option Addr) (cc2 sc2 tc2 hc2 ec2 dc2 : Nat) (w : World)
    (h : StP w B s CA SA TA HA EA DA cc sc tc hc ec dc) (h2 : StP w B s CA2 SA2 TA2 HA2 EA2 DA2 cc2 sc2 tc2 hc2 ec2 dc2) (hB : B ≤ w.heap.size) :
    Calls Tryz.prog 18 #[.agg #[.slice CA s.cells.length cc, .slice SA s.shapes.length sc, .slice TA s.texts.length tc, .slice HA s.threads.length hc, .slice EA s.ends.length ec, .slice DA s.said.length dc, .int .i64 s.asked, .int .i64 s.steps], .agg #[.slice CA2 s.cells.length cc2, .slice SA2 s.shapes.length sc2, .slice TA2 s.texts.length tc2, .slice HA2 s.threads.length hc2, .slice EA2 s.ends.length ec2, .slice DA2 s.said.length dc2, .int .i64 s.asked, .int .i64 s.steps]] w (TrueP w) := by
  obtain ⟨P, hP⟩ : ∃ P, TrueP w = P := ⟨_, rfl⟩
  have HP := Lib.hid hP; rw [hP]; clear hP
  obtain ⟨-, hl1, hl2, hl3, hl4, hl5, hl6⟩ : True ∧ s.cells.length ≤ maxLen ∧ s.shapes.length ≤ maxLen ∧ s.texts.length ≤ maxLen ∧ s.threads.length ≤ maxLen ∧ s.ends.length ≤ maxLen ∧ s.said.length ≤ maxLen := by
    obtain ⟨_, _, _, _, _, _, k1, k2, k3, k4, k5, k6⟩ := h
    exact ⟨trivial, by omega, by omega, by omega, by omega, by omega, by omega⟩
  have H := Lib.hid (And.intro (h) (And.intro (h2) (And.intro (hl1) (And.intro (hl2) (And.intro (hl3) (And.intro (hl4) (And.intro (hl5) (hl6))))))))
  clear h h2 hl1 hl2 hl3 hl4 hl5 hl6
  go_enter Tryz.func18, Tryz.ntmps18
  go_upto_region 1 with fail
  refine wp_world (fun W => Sm w B s CA SA TA HA EA DA cc sc tc hc ec dc CA2 SA2 TA2 HA2 EA2 DA2 cc2 sc2 tc2 hc2 ec2 dc2 W) (by
    obtain ⟨g1, g2, hb⟩ := two_box w 32 #[.slice CA s.cells.length cc, .slice SA s.shapes.length sc, .slice TA s.texts.length tc, .slice HA s.threads.length hc, .slice EA s.ends.length ec, .slice DA s.said.length dc, .int .i64 s.asked, .int .i64 s.steps] #[.slice CA2 s.cells.length cc2, .slice SA2 s.shapes.length sc2, .slice TA2 s.texts.length tc2, .slice HA2 s.threads.length hc2, .slice EA2 s.ends.length ec2, .slice DA2 s.said.length dc2, .int .i64 s.asked, .int .i64 s.steps]
    exact ⟨H.out.1.below (hb.mono hB), H.out.2.1.below (hb.mono hB), g1, g2, hb⟩) ?_
  rintro W hW
  have hs := hW.t.size
  have hc := eqFnCe_any CA CA2 cc cc2 B 42 _ s.cells W rfl hW.a.a1 hW.b.a1 (by omega) H.out.2.2.1 egS1 (fun V hV x hx VA vc FA fc VA2 vc2 FA2 fc2 r1 l1 t1 l2 r2 l3 t2 l4 _ => sameCell_any B x VA FA VA2 FA2 vc fc vc2 fc2 V r1 t1 r2 t2 (by have := hV.size; omega) (by omega) (by omega))
  obtain ⟨q0, q1, q2, q3, q4, q5, q6, q7⟩ := hW.g1.cells8
  obtain ⟨p0, p1, p2, p3, p4, p5, p6, p7⟩ := hW.g2.cells8
  have HW := Lib.hid (And.intro (hc) (hW))
  clear hc hW
  go_wp2_with fail
  refine HW.out.1.mono ?_
  rintro e w1 ⟨rfl, hb1⟩
  have hm := HW.out.2.fresh hB hb1
  clear q0 q1 q2 q3 q4 q5 q6 q7 p0 p1 p2 p3 p4 p5 p6 p7 hs
  have hs := hm.t.size
  have hc := eqP_any45 SA SA2 sc sc2 B _ _ s.shapes s.shapes w1 rfl rfl hm.a.a2 hm.b.a2 H.out.2.2.2.1
  obtain ⟨q0, q1, q2, q3, q4, q5, q6, q7⟩ := hm.g1.cells8
  obtain ⟨p0, p1, p2, p3, p4, p5, p6, p7⟩ := hm.g2.cells8
  have H1 := Lib.hid (And.intro (hc) (hm))
  clear hc hm hb1
  go_wp2_with fail
  refine H1.out.1.mono ?_
  rintro e w2 ⟨b, rfl, hb, hb2⟩
  obtain rfl : b = true := hb.2 trivial
  have hm := H1.out.2.fresh hB hb2
  clear q0 q1 q2 q3 q4 q5 q6 q7 p0 p1 p2 p3 p4 p5 p6 p7 hs hb
  have hs := hm.t.size
  have hc := eqS_any TA TA2 tc tc2 B _ _ s.texts s.texts w2 rfl rfl hm.a.a3 hm.b.a3 H.out.2.2.2.2.1
  obtain ⟨q0, q1, q2, q3, q4, q5, q6, q7⟩ := hm.g1.cells8
  obtain ⟨p0, p1, p2, p3, p4, p5, p6, p7⟩ := hm.g2.cells8
  have H2 := Lib.hid (And.intro (hc) (hm))
  clear hc hm hb2
  go_wp2_with fail
  refine H2.out.1.mono ?_
  rintro e w3 ⟨b, rfl, hb, hb3⟩
  obtain rfl : b = true := hb.2 trivial
  have hm := H2.out.2.fresh hB hb3
  clear q0 q1 q2 q3 q4 q5 q6 q7 p0 p1 p2 p3 p4 p5 p6 p7 hs hb
  have hs := hm.t.size
  have hc := eqFnTh_any HA HA2 hc hc2 B 48 _ s.threads w3 rfl hm.a.a4 hm.b.a4 (by omega) H.out.2.2.2.2.2.1 egS2 (fun V hV x hx FA fc FA2 fc2 r1 l1 r2 l2 _ => sameThread_any B x FA FA2 fc fc2 V r1 r2 (by have := hV.size; omega) (by omega))
  obtain ⟨q0, q1, q2, q3, q4, q5, q6, q7⟩ := hm.g1.cells8
  obtain ⟨p0, p1, p2, p3, p4, p5, p6, p7⟩ := hm.g2.cells8
  have H3 := Lib.hid (And.intro (hc) (hm))
  clear hc hm hb3
  go_wp2_with fail
  refine H3.out.1.mono ?_
  rintro e w4 ⟨rfl, hb4⟩
  have hm := H3.out.2.fresh hB hb4
  clear q0 q1 q2 q3 q4 q5 q6 q7 p0 p1 p2 p3 p4 p5 p6 p7 hs
  have hs := hm.t.size
  have hc := eqE_any EA EA2 ec ec2 B _ _ s.ends s.ends w4 rfl rfl hm.a.a5 hm.b.a5 H.out.2.2.2.2.2.2.1
  obtain ⟨q0, q1, q2, q3, q4, q5, q6, q7⟩ := hm.g1.cells8
  obtain ⟨p0, p1, p2, p3, p4, p5, p6, p7⟩ := hm.g2.cells8
  have H4 := Lib.hid (And.intro (hc) (hm))
  clear hc hm hb4
  go_wp2_with fail
  refine H4.out.1.mono ?_
  rintro e w5 ⟨b, rfl, hb, hb5⟩
  obtain rfl : b = true := hb.2 trivial
  have hm := H4.out.2.fresh hB hb5
  clear q0 q1 q2 q3 q4 q5 q6 q7 p0 p1 p2 p3 p4 p5 p6 p7 hs hb
  have hs := hm.t.size
  have hc := eqP_any43 DA DA2 dc dc2 B _ _ s.said s.said w5 rfl rfl hm.a.a6 hm.b.a6 H.out.2.2.2.2.2.2.2
  obtain ⟨q0, q1, q2, q3, q4, q5, q6, q7⟩ := hm.g1.cells8
  obtain ⟨p0, p1, p2, p3, p4, p5, p6, p7⟩ := hm.g2.cells8
  have H5 := Lib.hid (And.intro (hc) (hm))
  clear hc hm hb5
  go_wp2_with fail
  refine H5.out.1.mono ?_
  rintro e w6 ⟨b, rfl, hb, hb6⟩
  obtain rfl : b = true := hb.2 trivial
  have hm := H5.out.2.fresh hB hb6
  clear q0 q1 q2 q3 q4 q5 q6 q7 p0 p1 p2 p3 p4 p5 p6 p7 hs hb
  have hfin : P (.returned (.bool true)) w6 := by rw [← HP.out]; exact ⟨rfl, hm.t⟩
  obtain ⟨q0, q1, q2, q3, q4, q5, q6, q7⟩ := hm.g1.cells8
  obtain ⟨p0, p1, p2, p3, p4, p5, p6, p7⟩ := hm.g2.cells8
  have H6 := Lib.hid (hfin)
  clear hfin hm hb6
  go_wp2_with fail
  exact H6.out
end Top
end Go.Proofs.YtdlcooplllimeaaGreatDoor
