/- KW: CqC. -/
import Derived.Test.YtdlcooplllimeaaGreatDoorKW5
import Derived.Test.YtdlcooplllimeaaGreatDoorKW13
import Derived.Test.YtdlcooplllimeaaGreatDoorKT37
/- reach.Collect. -/
namespace Go.Proofs.YtdlcooplllimeaaGreatDoor
open Go.RowKit

attribute [local go_sem ↓] Go.wp_at_zero Go.wp_at_succ

namespace Top
theorem cps_of {pg : Pg} {s : Stt} (h : ScOk pg s) (h1 : s.shapes.length ≤ 100) (hs : SOk s) : CpS s where
  c := ⟨by have := hs.many.1; omega, by omega, by have := hs.many.2; omega, by have := h.th; omega, by have := h.cl.1.2.2.2.1; omega, by have := h.cl.1.2.2.1; omega⟩
  ce := fun x hx => ⟨by rcases hs.vlen x hx with h | h <;> omega, by have := (hs.frs x hx).1; omega, fun f hf => by have := ((hs.frs x hx).2 f hf).1.many; omega⟩
  th := fun x hx => ⟨by have := h.fr x hx; omega, fun f hf => by have := ((hs.ths x hx).1 f hf).1.many; omega⟩
theorem kept_setRow {m : World} {Z : Nat} {t : TypeId} {cs : Array Value} (hz : Blk m Z t cs) (cs' : Array Value) : Kept (fun u => u = t) m (m.setRow Z cs') := fun g cs2 t2 st ht hx => setRow_other m Z g _ (fun e => by
  subst e
  unfold Blk at hz
  rw [hz] at hx
  injection hx with hx
  injection hx with _ hx _
  exact ht hx.symm)
def MS (t : TypeId) : Prop := t = 32
instance (t : TypeId) : Decidable (MS t) := by unfold MS; infer_instance
theorem ms_my {t : TypeId} (h : MS t) : MY t := by unfold MS at h; subst h; decide
theorem CeO.kept {m m' : World} {base : Nat} {A : Option Addr} {c : Nat} {rows : List (Raw 4)} {xs : List Ce} (h : CeO m base A c rows xs) (hk : Kept MS m m') : CeO m' base A c rows xs :=
  ⟨hk.own h.o (by decide), h.n, fun k r x a b => (h.r k r x a b).kept (hk.more fun _ => ms_my)⟩
theorem StR.keptS {m m' : World} {base : Nat} {s : Stt} {SA TA HA EA DA : Option Addr} {sc tc hc ec dc : Nat} (h : StR m base s SA TA HA EA DA sc tc hc ec dc) (hk : Kept MS m m') : StR m' base s SA TA HA EA DA sc tc hc ec dc := by
  obtain ⟨tr, h1, h2, h3⟩ := h.th
  exact ⟨hk.own h.sh (by decide), hk.own h.tx (by decide), ⟨tr, hk.own h1 (by decide), h2, fun k r x a b => (h3 k r x a b).kept (hk.more fun _ => ms_my)⟩, hk.own h.en (by decide), hk.own h.sd (by decide)⟩
theorem CeO.atG {m : World} {base : Nat} {A : Option Addr} {c : Nat} {rows : List (Raw 4)} {xs : List Ce} (h : CeO m base A c rows xs) (hg : ∀ x ∈ xs, CeG x) : At m m.heap.size A xs :=
  Own.at_raw rfl h.o h.n fun k r x a b => (h.r k r x a b).rdG (hg x (List.mem_of_getElem? b))
def CoPost (s : Stt) (w : World) (e : Ending) (w' : World) : Prop :=
  ∃ (ys : List Ce) (CA SA TA HA EA DA : Option Addr) (cc sc tc hc ec dc n1 n2 n3 n4 n5 : Nat) (a b r : Int), e = .returned (.tuple #[.agg #[.slice CA ys.length cc, .slice SA n1 sc, .slice TA n2 tc, .slice HA n3 hc, .slice EA n4 ec, .slice DA n5 dc, .int .i64 a, .int .i64 b], .int .i64 r]) ∧
    At w' w'.heap.size CA ys ∧ (r = 0 → ys = gl (rcB s) s.cells) ∧ (r ≠ 0 → ys = []) ∧ Below w.heap.size w w'
set_option maxHeartbeats 1600000 in
set_option maxRecDepth 100000 in
theorem coll_any (w : World) (B : Nat) (pg : Pg) (s : Stt) (FA KA XA CA SA TA HA EA DA : Option Addr) (fc kc xc cc sc tc hc ec dc : Nat) (hF : At w B FA pg.fns) (hK : At w B KA pg.consts) (hX : At w B XA pg.texts) (hxc : pg.texts.length ≤ xc ∧ xc ≤ maxLen) (h : StP w B s CA SA TA HA EA DA cc sc tc hc ec dc) (hB : B ≤ w.heap.size) (hT : Tabs w) :
    Calls Tryz.prog 17 #[.agg #[.slice FA pg.fns.length fc, .slice KA pg.consts.length kc, .slice XA pg.texts.length xc], .agg #[.slice CA s.cells.length cc, .slice SA s.shapes.length sc, .slice TA s.texts.length tc, .slice HA s.threads.length hc, .slice EA s.ends.length ec, .slice DA s.said.length dc, .int .i64 s.asked, .int .i64 s.steps]] w (CoPost s w) := by
  obtain ⟨P, hP⟩ : ∃ P, CoPost s w = P := ⟨_, rfl⟩
  have HP := Lib.hid hP; rw [hP]; clear hP
  have H := Lib.hid (And.intro (hF) (And.intro (hK) (And.intro (hX) (And.intro (hxc) (And.intro (h) (hT))))))
  clear hF hK hX hxc h hT
  go_enter Tryz.func17, Tryz.ntmps17
  go_upto_region 1 with fail
  refine wp_world (fun W => Blk W w.heap.size 26 #[.slice FA pg.fns.length fc, .slice KA pg.consts.length kc, .slice XA pg.texts.length xc] ∧ Blk W (w.heap.size + 1) 32 #[.slice CA s.cells.length cc, .slice SA s.shapes.length sc, .slice TA s.texts.length tc, .slice HA s.threads.length hc, .slice EA s.ends.length ec, .slice DA s.said.length dc, .int .i64 s.asked, .int .i64 s.steps] ∧ Blk W (w.heap.size + 2) 32 #[.slice none 0 0, .slice none 0 0, .slice none 0 0, .slice none 0 0, .slice none 0 0, .slice none 0 0, .int .i64 0, .int .i64 0] ∧ Below w.heap.size w W ∧ w.heap.size + 3 ≤ W.heap.size)
    ⟨((Blk.new _ _ _).alloc _).alloc _, (Blk.at_ _ _ _ (by simp)).alloc _, Blk.at_ _ _ _ (by simp), (((Below.refl _ _).alloc (Nat.le_refl _) _).alloc (by simp) _).alloc (by simp; omega) _, by simp⟩ ?_
  rintro W ⟨hPr, hSt, hZ, hbW, hsW⟩
  have p0 := hPr.cell 0 (v := .slice FA pg.fns.length fc) rfl
  have p1 := hPr.cell 1 (v := .slice KA pg.consts.length kc) rfl
  have p2 := hPr.cell 2 (v := .slice XA pg.texts.length xc) rfl
  obtain ⟨s0, s1, s2, s3, s4, s5, s6, s7⟩ := hSt.cells8
  have hc := stCheck2_any W B pg s FA KA XA CA SA TA HA EA DA fc kc xc cc sc tc hc ec dc (H.out.1.below (hbW.mono hB)) (H.out.2.1.below (hbW.mono hB)) (H.out.2.2.1.below (hbW.mono hB)) H.out.2.2.2.1 (H.out.2.2.2.2.1.below (hbW.mono hB)) (by omega) (H.out.2.2.2.2.2.fresh hbW)
  have HW := Lib.hid (And.intro (hc) (And.intro (hSt) (And.intro (hZ) (hbW))))
  clear hc hPr hSt hZ hbW
  go_wp2_with fail
  refine HW.out.1.mono ?_
  rintro e w1 ⟨r, rfl, hr, b1⟩
  have hs1 := b1.size
  have hSt1 := HW.out.2.1.fresh b1
  have hZ1 := HW.out.2.2.1.fresh b1
  have hb1 : Below w.heap.size w w1 := HW.out.2.2.2.trans (b1.mono HW.out.2.2.2.size)
  clear p0 p1 p2 s0 s1 s2 s3 s4 s5 s6 s7
  by_cases hr0 : r = 0
  · subst hr0
    obtain ⟨hsc, hsh⟩ := hr rfl
    have hP1 := H.out.2.2.2.2.1.below (hb1.mono hB)
    have hok := hsc.sok (st_i64 hP1)
    have hcp := copy_any B s CA SA TA HA EA DA cc sc tc hc ec dc w1 hP1 (by omega) (cps_of hsc hsh hok)
    obtain ⟨s0, s1, s2, s3, s4, s5, s6, s7⟩ := hSt1.cells8
    have H1 := Lib.hid (And.intro (hcp) (And.intro (hSt1) (And.intro (hZ1) (And.intro (hb1) (And.intro (hsc) (hok))))))
    clear hcp hSt1 hZ1 hb1 hsc hok hP1 hr b1 hsh
    go_wp2_with fail
    refine H1.out.1.mono ?_
    rintro e w2 ⟨CA2, SA2, TA2, HA2, EA2, DA2, cc2, sc2, tc2, hc2, ec2, dc2, rows, rfl, hce, hst, b2⟩
    have hSt2 := H1.out.2.1.fresh b2
    have hZ2 := H1.out.2.2.1.fresh b2
    have hs2 := b2.size
    have km : Kept MS w2 (w2.setRow (w.heap.size + 1) #[.slice CA2 s.cells.length cc2, .slice SA2 s.shapes.length sc2, .slice TA2 s.texts.length tc2, .slice HA2 s.threads.length hc2, .slice EA2 s.ends.length ec2, .slice DA2 s.said.length dc2, .int .i64 s.asked, .int .i64 s.steps]) := kept_setRow hSt2 _
    have hb2 : Below w.heap.size w (w2.setRow (w.heap.size + 1) #[.slice CA2 s.cells.length cc2, .slice SA2 s.shapes.length sc2, .slice TA2 s.texts.length tc2, .slice HA2 s.threads.length hc2, .slice EA2 s.ends.length ec2, .slice DA2 s.said.length dc2, .int .i64 s.asked, .int .i64 s.steps]) := bel_setRow (H1.out.2.2.2.1.trans (b2.mono (by omega))) (by omega) _
    have hdo := do_any (w.heap.size + 1) w1.heap.size s CA2 SA2 TA2 HA2 EA2 DA2 cc2 sc2 tc2 hc2 ec2 dc2 rows _ H1.out.2.2.2.2.2 H1.out.2.2.2.2.1.fr ⟨H1.out.2.2.2.2.1.th, H1.out.2.2.2.2.1.cl.1.2.2.2.1⟩ hSt2.setRow (hce.kept km) (hst.keptS km) H.out.2.2.2.2.1.g (by omega) (by simp; omega)
    have hZ2' := hZ2.setRow_far (cs' := #[.slice CA2 s.cells.length cc2, .slice SA2 s.shapes.length sc2, .slice TA2 s.texts.length tc2, .slice HA2 s.threads.length hc2, .slice EA2 s.ends.length ec2, .slice DA2 s.said.length dc2, .int .i64 s.asked, .int .i64 s.steps]) (show w.heap.size + 2 ≠ w.heap.size + 1 by omega)
    have hsz2 : w1.heap.size ≤ (w2.setRow (w.heap.size + 1) #[.slice CA2 s.cells.length cc2, .slice SA2 s.shapes.length sc2, .slice TA2 s.texts.length tc2, .slice HA2 s.threads.length hc2, .slice EA2 s.ends.length ec2, .slice DA2 s.said.length dc2, .int .i64 s.asked, .int .i64 s.steps]).heap.size := by simp; omega
    have H2 := Lib.hid (And.intro (hSt2) (And.intro (hdo) (And.intro (hZ2') (And.intro (hb2) (hsz2)))))
    clear hdo hZ2' hb2 km hce hst hSt2 hZ2 b2 s0 s1 s2 s3 s4 s5 s6 s7
    go_wp2_with (first | (refine wpList_st rfl 32 (.tmp 3) (.tmp 15) rfl (w.heap.size + 1) rfl rfl H2.out.1 (by kernel_rfl) rfl rfl ?_))
    refine H2.out.2.1.mono ?_
    rintro e w3 ⟨rfl, hSt3, ⟨rows3, hce3⟩, hst3, b3⟩
    have hZ3 := (b3.block (w.heap.size + 2) (by omega)).trans H2.out.2.2.1
    have hb3 : Below w.heap.size w w3 := H2.out.2.2.2.1.trans (b3.mono (by omega))
    have H3 := Lib.hid (And.intro (hSt3) (And.intro (hZ3) (And.intro (hb3) (hce3))))
    clear hZ3 hb3 hSt3 hce3 hst3 b3
    go_wp2_with (first | (refine wpList_ld rfl 32 (.tmp 3) rfl (w.heap.size + 1) rfl H3.out.1 Tryz.underlying32 rfl (by kernel_rfl) ?_) | (refine wpList_st rfl 32 (.tmp 4) (.tmp 17) rfl (w.heap.size + 2) rfl rfl H3.out.2.1 (by kernel_rfl) rfl rfl ?_))
    refine bodyPost_ret (results_cell_tmp rfl _ _ (w.heap.size + 2) _ _ _ rfl (show Blk _ _ 32 _ from Blk.setRow H3.out.2.1) Tryz.underlying32 rfl (by kernel_rfl)) rfl ?_
    rw [← HP.out]
    refine ⟨gl (rcB s) s.cells, CA2, SA2, TA2, HA2, EA2, DA2, cc2, sc2, tc2, hc2, ec2, dc2, _, _, _, _, _, _, _, 0, by rw [gl_length]; rfl, ?_, fun _ => rfl, fun h => absurd rfl h, bel_setRow H3.out.2.2.1 (by omega) _⟩
    exact (H3.out.2.2.2.kept (kept_setRow (show Blk _ _ 32 _ from H3.out.2.1) _)).atG (gl_mem fun x hx n => (H.out.2.2.2.2.1.g.cells x hx).gone)
  · have d0 : (r == 0) = false := by simpa using hr0
    have H1 := Lib.hid (And.intro (hZ1) (And.intro (hb1) (hr0)))
    clear hZ1 hb1 hr0 hr hSt1 b1
    go_wp2_with (first | (refine wpList_st rfl 32 (.tmp 4) (.tmp 12) rfl (w.heap.size + 2) rfl rfl H1.out.1 (by kernel_rfl) rfl rfl ?_))
    refine bodyPost_ret (results_cell_tmp rfl _ _ (w.heap.size + 2) _ _ _ rfl (Blk.setRow H1.out.1) Tryz.underlying32 rfl (by kernel_rfl)) rfl ?_
    rw [← HP.out]
    exact ⟨[], none, none, none, none, none, none, 0, 0, 0, 0, 0, 0, 0, 0, 0, 0, 0, 0, 0, r, rfl, At.nil_, fun h => absurd h H1.out.2.2, fun _ => rfl, bel_setRow H1.out.2.1 (by omega) _⟩
end Top
end Go.Proofs.YtdlcooplllimeaaGreatDoor
