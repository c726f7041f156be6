/- KW: StcL. -/
import Derived.Test.YtdlcooplllimeaaGreatDoorKW4
import Derived.Test.YtdlcooplllimeaaGreatDoorKT37
/- state.Check, with the shapes counted. Printed by gencl2.py. -/
namespace Go.Proofs.YtdlcooplllimeaaGreatDoor
open Go.RowKit

attribute [local go_sem ↓] Go.wp_at_zero Go.wp_at_succ

namespace Top
def ScPost2 (pg : Pg) (s : Stt) (w : World) (e : Ending) (w' : World) : Prop := ∃ r : Int, e = .returned (.int .i64 r) ∧ (r = 0 → ScOk pg s ∧ s.shapes.length ≤ 100) ∧ Below w.heap.size w w'
set_option maxHeartbeats 3200000 in
set_option maxRecDepth 100000 in
theorem stCheck2_any (w : World) (B : Nat) (pg : Pg) (s : Stt) (FA KA XA CA SA TA HA EA DA : Option Addr) (fc kc xc cc sc tc hc ec dc : Nat) (hF : At w B FA pg.fns) (hK : At w B KA pg.consts) (hX : At w B XA pg.texts) (hxc : pg.texts.length ≤ xc ∧ xc ≤ maxLen) (h : StP w B s CA SA TA HA EA DA cc sc tc hc ec dc) (hB : B ≤ w.heap.size) (hT : Tabs w) :
    Calls Tryz.prog 14 #[.agg #[.slice FA pg.fns.length fc, .slice KA pg.consts.length kc, .slice XA pg.texts.length xc], .agg #[.slice CA s.cells.length cc, .slice SA s.shapes.length sc, .slice TA s.texts.length tc, .slice HA s.threads.length hc, .slice EA s.ends.length ec, .slice DA s.said.length dc, .int .i64 s.asked, .int .i64 s.steps]] w (ScPost2 pg s w) := by
  obtain ⟨P, hP⟩ : ∃ P, ScPost2 pg s w = P := ⟨_, rfl⟩
  have HP := Lib.hid hP; rw [hP]; clear hP
  have hfin : ∀ (r : Int) (w' : World), r ≠ 0 → Below w.heap.size w w' → P (.returned (.int .i64 r)) w' := by
    intro r w' hr hb
    rw [← HP.out]
    exact ⟨r, rfl, fun h => absurd h hr, hb⟩
  have HN := Lib.hid hfin; clear hfin
  have H := Lib.hid (And.intro hF (And.intro hK (And.intro hX (And.intro hxc (And.intro h hT))))); clear hF hK hX hxc h hT
  go_enter Tryz.func14, Tryz.ntmps14
  go_upto_region 1 with fail
  refine wp_world (fun W => Blk W w.heap.size 26 #[.slice FA pg.fns.length fc, .slice KA pg.consts.length kc, .slice XA pg.texts.length xc] ∧ Blk W (w.heap.size + 1) 32 #[.slice CA s.cells.length cc, .slice SA s.shapes.length sc, .slice TA s.texts.length tc, .slice HA s.threads.length hc, .slice EA s.ends.length ec, .slice DA s.said.length dc, .int .i64 s.asked, .int .i64 s.steps] ∧ Below w.heap.size w W ∧ W.heap.size = w.heap.size + 2) ⟨?_, ?_, ?_, ?_⟩ ?_
  · exact (Blk.new w _ _).fresh ((Below.refl _ _).alloc (Nat.le_refl _) _)
  · have := Blk.new (w.alloc (.cells #[.slice FA pg.fns.length fc, .slice KA pg.consts.length kc, .slice XA pg.texts.length xc] 26)) 32 #[.slice CA s.cells.length cc, .slice SA s.shapes.length sc, .slice TA s.texts.length tc, .slice HA s.threads.length hc, .slice EA s.ends.length ec, .slice DA s.said.length dc, .int .i64 s.asked, .int .i64 s.steps]
    simpa using this
  · exact ((Below.refl _ _).alloc (Nat.le_refl _) _).alloc (by simp) _
  · simp
  rintro W ⟨hPr, hSt, hbW, hsW⟩
  have p0 := hPr.cell 0 (v := .slice FA pg.fns.length fc) rfl
  have p1 := hPr.cell 1 (v := .slice KA pg.consts.length kc) rfl
  have p2 := hPr.cell 2 (v := .slice XA pg.texts.length xc) rfl
  have hcc := codeCheck_any pg fc kc xc B FA KA XA W (H.out.1.below (hbW.mono hB)) (H.out.2.1.below (hbW.mono hB)) (H.out.2.2.1.below (hbW.mono hB)) (by omega) H.out.2.2.2.1 (H.out.2.2.2.2.2.fresh hbW)
  have HW := Lib.hid (And.intro hcc (And.intro hPr (And.intro hSt hbW))); clear hcc hPr hSt hbW
  go_wp2_with fail
  refine HW.out.1.mono ?_
  rintro e w1 ⟨r, rfl, hcd, -, hb1⟩
  have hbl1 := HW.out.2.2.2.trans (hb1.mono (by omega))
  have H1 := Lib.hid (And.intro hcd (And.intro hb1 hbl1)); clear hcd hb1 hbl1 p0 p1 p2
  by_cases hr : r = 0
  case neg =>
    have dr : (r == 0) = false := by simpa using hr
    have HE := Lib.hid (And.intro hr H1.out.2.2); clear hr
    go_wp2_with fail
    exact HN.out _ _ HE.out.1 HE.out.2
  subst hr
  have hcd := H1.out.1 rfl
  have hs1 := H1.out.2.1.size
  have hSt1 := HW.out.2.2.1.fresh H1.out.2.1
  have s0 := hSt1.cell 0 (v := .slice CA s.cells.length cc) rfl
  have s1 := hSt1.cell 1 (v := .slice SA s.shapes.length sc) rfl
  have s2 := hSt1.cell 2 (v := .slice TA s.texts.length tc) rfl
  have s3 := hSt1.cell 3 (v := .slice HA s.threads.length hc) rfl
  have s4 := hSt1.cell 4 (v := .slice EA s.ends.length ec) rfl
  have s5 := hSt1.cell 5 (v := .slice DA s.said.length dc) rfl
  have s6 := hSt1.cell 6 (v := .int .i64 s.asked) rfl
  have s7 := hSt1.cell 7 (v := .int .i64 s.steps) rfl
  have hcc := clCheck2_any w1 B s CA SA TA HA EA DA cc sc tc hc ec dc (H.out.2.2.2.2.1.below (H1.out.2.2.mono hB)) (by omega) (H.out.2.2.2.2.2.fresh H1.out.2.2)
  have H2 := Lib.hid (And.intro hcc hcd); clear hcc hcd hSt1
  go_wp2_with fail
  refine H2.out.1.mono ?_
  rintro e w2 ⟨r, rfl, hcl, hb2⟩
  have hbl2 := H1.out.2.2.trans (hb2.mono (by omega))
  have hbW2 := H1.out.2.1.trans (hb2.mono (by omega))
  have H3 := Lib.hid (And.intro hcl (And.intro hbW2 hbl2)); clear hcl hbW2 hbl2 hb2 s0 s1 s2 s3 s4 s5 s6 s7
  by_cases hr : r = 0
  case neg =>
    have dr : (r == 0) = false := by simpa using hr
    have HE := Lib.hid (And.intro hr H3.out.2.2); clear hr
    go_wp2_with fail
    exact HN.out _ _ HE.out.1 HE.out.2
  subst hr
  have hs2 := H3.out.2.1.size
  have s3 := (HW.out.2.2.1.fresh H3.out.2.1).cell 3 (v := .slice HA s.threads.length hc) rfl
  by_cases h5 : s.threads.length ≤ 5
  case neg =>
    have d6 : decide ((5 : Int) < (s.threads.length : Int)) = true := by simp; omega
    have HE := Lib.hid H3.out.2.2; clear h5
    go_wp2_with fail
    exact HN.out 2 _ (by decide) HE.out
  have d6 : decide ((5 : Int) < (s.threads.length : Int)) = false := by simp; omega
  have hct := ctFThread_any HA hc B 33 s.threads.length #[] s.threads w2 (fun t => t.frames.length ≤ 30) rfl (H.out.2.2.2.2.1.below (H3.out.2.2.mono hB)).a4 (by omega) (by omega) egSc1
    (fun V hV x hx Av cv _ _ _ => sck1_any V x.frames.length cv Av _ _ _ _)
  have H4 := Lib.hid hct; clear hct
  go_wp2_with fail
  refine H4.out.mono ?_
  rintro e w3 ⟨b, rfl, hfr, hb3⟩
  have hbl3 := H3.out.2.2.trans (hb3.mono (by omega))
  have hbW3 := H3.out.2.1.trans (hb3.mono (by omega))
  have H5 := Lib.hid (And.intro hfr (And.intro hbW3 hbl3)); clear hfr hbW3 hbl3 hb3 s3
  cases b with
  | true =>
    go_wp2_with fail
    exact HN.out 2 _ (by decide) H5.out.2.2
  | false =>
  have hfr := H5.out.1 (by simp)
  have hs3 := H5.out.2.1.size
  have hP3 := HW.out.2.1.fresh H5.out.2.1
  have p0 := hP3.cell 0 (v := .slice FA pg.fns.length fc) rfl
  have p1 := hP3.cell 1 (v := .slice KA pg.consts.length kc) rfl
  have p2 := hP3.cell 2 (v := .slice XA pg.texts.length xc) rfl
  have hmm := run_makeMap (P := Tryz.prog) 89 w3
  have HG := Lib.hid (And.intro hfr hP3); clear hfr hP3
  go_upto_region 10 with fail
  refine wp_world (fun V => Blk V (w3.heap.size + 1) 104 #[.slice FA pg.fns.length fc, .slice KA pg.consts.length kc, .slice XA pg.texts.length xc, .pointer (some ⟨w.heap.size + 1, 0, none⟩), .slice none 0 0, .slice none 0 0, .map (some w3.heap.size)] ∧ Below (w3.heap.size + 1) (w3.alloc (.map #[] 0)) V ∧ V.heap.size = w3.heap.size + 2) ⟨?_, ?_, ?_⟩ ?_
  · have := Blk.new (w3.alloc (.map #[] 0)) 104 #[.slice FA pg.fns.length fc, .slice KA pg.consts.length kc, .slice XA pg.texts.length xc, .pointer (some ⟨w.heap.size + 1, 0, none⟩), .slice none 0 0, .slice none 0 0, .map (some w3.heap.size)]
    simpa using this
  · exact (Below.refl _ _).alloc (by simp) _
  · simp
  rintro V ⟨hLk, hbV, hsV⟩
  have hbV3 : Below w3.heap.size w3 V := ((Below.refl _ _).alloc (Nat.le_refl _) _).trans (hbV.mono (by omega))
  have hbVw : Below w.heap.size w V := H5.out.2.2.trans (hbV3.mono (by omega))
  have hPV := HG.out.2.fresh hbV3
  have p0 := hPV.cell 0 (v := .slice FA pg.fns.length fc) rfl
  have p1 := hPV.cell 1 (v := .slice KA pg.consts.length kc) rfl
  have p2 := hPV.cell 2 (v := .slice XA pg.texts.length xc) rfl
  have hall := codeAll_any B pg.fns.length fc pg.consts.length kc pg.texts.length xc FA KA XA pg.fns V (H.out.1.below (hbVw.mono hB)) (by omega) rfl H2.out.2.one.2 (fun f hf => ⟨(H2.out.2.fn f hf).2.1, (H2.out.2.fn f hf).2.2⟩)
  have HV := Lib.hid (And.intro hall (And.intro hLk (And.intro hbV (And.intro hbV3 hbVw)))); clear hall hLk hbV hbV3 hbVw hPV hmm
  go_wp2_with fail
  refine HV.out.1.mono ?_
  rintro e V1 ⟨hbA, A1, A2, c1, c2, l1, l2, rfl, hAT⟩
  have hL1 := HV.out.2.1.fresh hbA
  have c4 := hL1.cell 4 (v := .slice none 0 0) rfl
  have c5 := hL1.cell 5 (v := .slice none 0 0) rfl
  have z4 := hL1.frozen 4
  have z5 := hL1.frozen 5
  have HA1 := Lib.hid (And.intro hbA (And.intro hAT hL1)); clear hbA hAT hL1 p0 p1 p2
  go_upto_region 11 with fail
  refine wp_world (fun V2 => Blk V2 (w3.heap.size + 1) 104 #[.slice FA pg.fns.length fc, .slice KA pg.consts.length kc, .slice XA pg.texts.length xc, .pointer (some ⟨w.heap.size + 1, 0, none⟩), .slice A1 pg.fns.length c1, .slice A2 pg.fns.length c2, .map (some w3.heap.size)] ∧ Kept ML V1 V2 ∧ Below (w3.heap.size + 1) V1 V2 ∧ V2.heap.size = V1.heap.size) ⟨?_, ?_, ?_, ?_⟩ ?_
  · have := (HA1.out.2.2.set_ 4 (.slice A1 pg.fns.length c1)).set_ 5 (.slice A2 pg.fns.length c2)
    simpa using this
  · exact ((Kept.refl V1 : Kept ML V1 V1).setBlk HA1.out.2.2 (show ML _ from rfl) 4 _).setBlk (HA1.out.2.2.set_ 4 _) (show ML _ from rfl) 5 _
  · exact ((Below.refl _ _).setCell (p := ⟨w3.heap.size + 1, 4, none⟩) (Nat.le_refl _) _).setCell (p := ⟨w3.heap.size + 1, 5, none⟩) (Nat.le_refl _) _
  · simp
  rintro V2 ⟨hL2, hk2, hb2, hs2'⟩
  clear c4 c5 z4 z5
  have hsA := HA1.out.1.size
  have hbc : Below (w3.heap.size + 1) (w3.alloc (.map #[] 0)) V2 := (HV.out.2.2.1.trans (HA1.out.1.mono (by omega))).trans hb2
  have hb3 : Below w3.heap.size w3 V2 := ((Below.refl _ _).alloc (Nat.le_refl _) _).trans (hbc.mono (by omega))
  have hb0 : Below w.heap.size w V2 := H5.out.2.2.trans (hb3.mono (by omega))
  have hbW : Below W.heap.size W V2 := H5.out.2.1.trans (hb3.mono (by omega))
  have hmp : MapN V2 3 w3.heap.size 0 := (MapN.made w3 3).kept (by simpa using hbc)
  obtain ⟨X, Y, hX, hY, hTO⟩ := tabs_of (HA1.out.2.1.keptL hk2)
  have hS2 := HW.out.2.2.1.fresh hbW
  have hSP := H.out.2.2.2.2.1.below (hb0.mono hB)
  have hsz2 := hb0.size
  have hLk : LkA V2 (w3.heap.size + 1) (w.heap.size + 1) w3.heap.size pg s := ⟨FA, KA, XA, A1, A2, fc, kc, xc, c1, c2, X, Y, hL2, hSP.stA hS2 (by omega), (H.out.1.below (hb0.mono hB)).more (by omega), (H.out.2.2.1.below (hb0.mono hB)).more (by omega), hX, hY, hTO⟩
  have htx : TxCap V2 (w.heap.size + 1) := by
    intro A n c hc'
    have := hS2.cell 2 (v := .slice TA s.texts.length tc) rfl
    rw [this] at hc'
    injection hc' with hc'
    injection hc' with _ h2 h3
    rw [← h2, ← h3]; exact hSP.k3
  have hrg := rightS_any V2 (w3.heap.size + 1) (w.heap.size + 1) w3.heap.size 0 pg s hLk hmp htx (H3.out.1 (by simp)).1 H2.out.2 h5 HG.out.1 (by omega)
  have HR := Lib.hid (And.intro hrg hb0); clear hrg hb0 hLk htx hS2 hSP hX hY hTO hmp hbc hb3 hbW hL2 hk2 hb2
  go_wp2_with fail
  refine HR.out.1.mono ?_
  rintro e V3 ⟨b, rfl, hb, hm⟩
  have hfin3 : Below w.heap.size w V3 := HR.out.2.trans (hm.below (by omega) (by omega))
  have HZ := Lib.hid (And.intro hb hfin3); clear hb hm hfin3
  cases b with
  | false =>
    go_wp2_with fail
    exact HN.out 3 _ (by decide) HZ.out.2
  | true =>
    go_wp2_with fail
    rw [← HP.out]
    exact ⟨0, rfl, fun _ => ⟨⟨H2.out.2, (H3.out.1 (by simp)).1, h5, HG.out.1, HZ.out.1 (by simp)⟩, (H3.out.1 (by simp)).2⟩, HZ.out.2⟩
end Top
end Go.Proofs.YtdlcooplllimeaaGreatDoor
