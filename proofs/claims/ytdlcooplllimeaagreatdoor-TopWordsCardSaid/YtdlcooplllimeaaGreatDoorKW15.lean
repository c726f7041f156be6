/- KW: CqD. -/
import Derived.Test.YtdlcooplllimeaaGreatDoorKW4
import Derived.Test.YtdlcooplllimeaaGreatDoorKW14
import Derived.Test.YtdlcooplllimeaaGreatDoorKT38
/- TopWords: the walk. -/
namespace Go.Proofs.YtdlcooplllimeaaGreatDoor
open Go.RowKit

attribute [local go_sem ↓] Go.wp_at_zero Go.wp_at_succ

namespace Top
theorem fri_of {s : Stt} (hs : SOk s) {c : Ce} (hc : c ∈ s.cells) (hg : CeG c) {f : Fr} (hf : f ∈ c.frames) : FrI f where
  i := (hg.frames f hf).i
  self := ⟨((hs.wok hc).frames f hf).1, (hg.frames f hf).self⟩
  regs := fun v hv => ⟨((hs.wok hc).frames f hf).2 v hv, (hg.frames f hf).regs v hv⟩
  tries := (hg.frames f hf).tries
  many := ((hs.frs c hc).2 f hf).1.many
theorem cei_of {s : Stt} (hs : SOk s) (hg : StG s) : ∀ x ∈ s.cells, CeI x := fun x hx => {
  i := (hg.cells x hx).i
  vals := fun v hv => ⟨(hs.wok hx).vals v hv, (hg.cells x hx).vals v hv⟩
  frames := fun f hf => fri_of hs hx (hg.cells x hx) hf
  many := ⟨by rcases hs.vlen x hx with h | ⟨h7, h⟩
              · unfold mostV; split <;> omega
              · unfold mostV; rw [if_pos h7]; omega, by have := (hs.frs x hx).1; omega⟩ }
theorem errC_zero : ∀ {l : List Ce}, (∀ c ∈ l, cellErr bxT c = 0) → errC 0 l = 0
  | [], _ => rfl
  | c :: l, h => by
    unfold errC
    rw [List.foldl_cons, if_pos rfl]
    have h1 : cellErr bxT c = 0 := h c (by simp)
    show List.foldl _ (cellErr bxT c) l = 0
    rw [h1]
    exact errC_zero fun d hd => h d (by simp [hd])
theorem allErr_zero {l : List Ce} (hl : l.length ≤ 300) (h : ∀ c ∈ l, Wok c) : allErr l = 0 := by
  unfold allErr
  rw [if_neg (by omega)]
  exact errC_zero fun c hc => (h c hc).err
theorem flat_le : ∀ (l : List Ce) (f : Nat → Ce → Ce), (∀ n c, (cellW bxT (f n c)).length ≤ (cellW bxT c).length) → ((l.mapIdx f).flatMap (cellW bxT)).length ≤ (l.flatMap (cellW bxT)).length
  | [], _, _ => by simp
  | c :: l, f, h => by
    rw [List.mapIdx_cons, List.flatMap_cons, List.flatMap_cons, List.length_append, List.length_append]
    have h1 := flat_le l (fun i => f (i + 1)) (fun n c => h (n + 1) c)
    have h2 := h 0 c
    omega
theorem allW_len (l : List Ce) : (allW l).length = 1 + (l.flatMap (cellW bxT)).length := by
  show (wd l.length :: l.flatMap (cellW bxT)).length = _
  rw [List.length_cons]; omega
theorem gl_len (seen : List Bool) (l : List Ce) : (allW (gl seen l)).length ≤ (allW l).length := by
  rw [allW_len, allW_len]
  have := flat_le l (fun n c => goneC seen n c) (fun n c => goneC_len bxT seen n c)
  unfold gl
  omega
theorem frW_len {f : Fr} (h : f.regs.length ≤ 60 ∧ f.tries.length ≤ 20) : (frameW bxT f).length ≤ 110 := by
  simp only [frameW, List.length_append, valsW_length, triesW_length, List.length_cons, List.length_nil]
  omega
theorem flat_bound {α β : Type} {f : α → List β} {m : Nat} : ∀ {l : List α}, (∀ x ∈ l, (f x).length ≤ m) → (l.flatMap f).length ≤ l.length * m
  | [], _ => by simp
  | x :: l, h => by
    rw [List.flatMap_cons, List.length_append, List.length_cons]
    have h1 := flat_bound (l := l) fun y hy => h y (by simp [hy])
    have h2 := h x (by simp)
    rw [Nat.add_mul]; omega
theorem words_small {s : Stt} (hs : SOk s) : (allW s.cells).length ≤ 1073741824 := by
  rw [allW_len]
  have h1 : (s.cells.flatMap (cellW bxT)).length ≤ s.cells.length * 1000 := flat_bound fun x hx => by
    rw [cellW_len]
    have h2 := (hs.frs x hx).1
    have h3 : (x.frames.flatMap (frameW bxT)).length ≤ x.frames.length * 110 := flat_bound fun f hf => frW_len ((hs.frs x hx).2 f hf).1.many
    rcases hs.vlen x hx with h | h <;> omega
  have := hs.many.1
  omega
def UOk (u : U64) : Prop := 0 ≤ u.val ∧ u.val ≤ 18446744073709551615
theorem boxW_ok (v : Int × Int) : UOk (boxW bxT v) := boxL_range v.1 v.2
theorem valsW_ok (l : List (Int × Int)) : ∀ u ∈ valsW bxT l, UOk u := by
  intro u hu
  unfold valsW at hu
  rcases List.mem_cons.1 hu with rfl | hu
  · exact wd_ok _
  · obtain ⟨v, -, rfl⟩ := List.mem_map.1 hu
    exact boxW_ok v
theorem triesW_ok (l : List (Int × Int)) : ∀ u ∈ triesW l, UOk u := by
  intro u hu
  unfold triesW at hu
  obtain ⟨t, -, hu⟩ := List.mem_flatMap.1 hu
  simp only [List.mem_cons, List.not_mem_nil, or_false] at hu
  rcases hu with rfl | rfl <;> exact wd_ok _
theorem frameW_ok (f : Fr) : ∀ u ∈ frameW bxT f, UOk u := by
  intro u hu
  unfold frameW at hu
  simp only [List.mem_append, List.mem_cons, List.not_mem_nil, or_false] at hu
  rcases hu with (((((rfl | rfl | rfl | rfl) | rfl) | hu) | rfl) | hu)
  · exact wd_ok _
  · exact wd_ok _
  · exact wd_ok _
  · exact wd_ok _
  · exact boxW_ok _
  · exact valsW_ok _ u hu
  · exact wd_ok _
  · exact triesW_ok _ u hu
theorem cellW_ok (c : Ce) : ∀ u ∈ cellW bxT c, UOk u := by
  intro u hu
  unfold cellW at hu
  simp only [List.mem_append, List.mem_cons, List.not_mem_nil, or_false] at hu
  rcases hu with ((((rfl | rfl) | hu) | rfl) | hu)
  · exact wd_ok _
  · exact wd_ok _
  · exact valsW_ok _ u hu
  · exact wd_ok _
  · obtain ⟨f, -, hu⟩ := List.mem_flatMap.1 hu
    exact frameW_ok f u hu
theorem allW_ok (l : List Ce) : ∀ u ∈ allW l, UOk u := by
  intro u hu
  have hu : u ∈ wd l.length :: l.flatMap (cellW bxT) := hu
  rcases List.mem_cons.1 hu with rfl | hu
  · exact wd_ok _
  · obtain ⟨c, -, hu⟩ := List.mem_flatMap.1 hu
    exact cellW_ok c u hu
set_option maxHeartbeats 3200000 in
set_option maxRecDepth 100000 in
theorem topWords_any (w : World) (B : Nat) (pg : Pg) (s : Stt) (FA KA XA CA SA TA HA EA DA : Option Addr) (fc kc xc cc sc tc hc ec dc : Nat) (hF : At w B FA pg.fns) (hK : At w B KA pg.consts) (hX : At w B XA pg.texts) (hxc : pg.texts.length ≤ xc ∧ xc ≤ maxLen) (h : StP w B s CA SA TA HA EA DA cc sc tc hc ec dc) (hB : B ≤ w.heap.size) (hT : Tabs w) :
    Calls Tryz.prog 5 #[.agg #[.slice FA pg.fns.length fc, .slice KA pg.consts.length kc, .slice XA pg.texts.length xc], .agg #[.slice CA s.cells.length cc, .slice SA s.shapes.length sc, .slice TA s.texts.length tc, .slice HA s.threads.length hc, .slice EA s.ends.length ec, .slice DA s.said.length dc, .int .i64 s.asked, .int .i64 s.steps]] w (TrueP w) := by
  obtain ⟨P, hP⟩ : ∃ P, TrueP w = P := ⟨_, rfl⟩
  have HP := Lib.hid hP; rw [hP]; clear hP
  have hfin : ∀ w', Below w.heap.size w w' → P (.returned (.bool true)) w' := fun w' hb => by rw [← HP.out]; exact ⟨rfl, hb⟩
  have HN := Lib.hid (hfin)
  have H := Lib.hid (And.intro (hF) (And.intro (hK) (And.intro (hX) (And.intro (hxc) (And.intro (h) (hT))))))
  clear hF hK hX hxc h hT hfin
  go_enter Tryz.func5, Tryz.ntmps5
  go_upto_region 1 with fail
  refine wp_world (fun W => Blk W w.heap.size 26 #[.slice FA pg.fns.length fc, .slice KA pg.consts.length kc, .slice XA pg.texts.length xc] ∧ Blk W (w.heap.size + 1) 32 #[.slice CA s.cells.length cc, .slice SA s.shapes.length sc, .slice TA s.texts.length tc, .slice HA s.threads.length hc, .slice EA s.ends.length ec, .slice DA s.said.length dc, .int .i64 s.asked, .int .i64 s.steps] ∧ Below w.heap.size w W ∧ w.heap.size + 2 ≤ W.heap.size)
    ⟨(Blk.new _ _ _).alloc _, Blk.at_ _ _ _ (by simp), ((Below.refl _ _).alloc (Nat.le_refl _) _).alloc (by simp) _, by simp⟩ ?_
  rintro W ⟨hPr, hSt, hbW, hsW⟩
  have hbx := rBoxed_any W
  have HW := Lib.hid (And.intro (hPr) (And.intro (hSt) (And.intro (hbW) (hbx))))
  clear hPr hSt hbW hbx
  go_wp2_with fail
  refine HW.out.2.2.2.mono ?_
  rintro e w1 ⟨rfl, b1⟩
  have hs1 := b1.size
  have hPr := HW.out.1.fresh b1
  have hSt := HW.out.2.1.fresh b1
  have hb1 := HW.out.2.2.1.trans (b1.mono HW.out.2.2.1.size)
  have p0 := hPr.cell 0 (v := .slice FA pg.fns.length fc) rfl
  have p1 := hPr.cell 1 (v := .slice KA pg.consts.length kc) rfl
  have p2 := hPr.cell 2 (v := .slice XA pg.texts.length xc) rfl
  obtain ⟨s0, s1, s2, s3, s4, s5, s6, s7⟩ := hSt.cells8
  have hc := stCheck2_any w1 B pg s FA KA XA CA SA TA HA EA DA fc kc xc cc sc tc hc ec dc (H.out.1.below (hb1.mono hB)) (H.out.2.1.below (hb1.mono hB)) (H.out.2.2.1.below (hb1.mono hB)) H.out.2.2.2.1 (H.out.2.2.2.2.1.below (hb1.mono hB)) (by omega) (H.out.2.2.2.2.2.fresh hb1)
  have H1 := Lib.hid (And.intro (hPr) (And.intro (hSt) (And.intro (hb1) (hc))))
  clear hPr hSt hb1 hc b1
  go_wp2_with fail
  refine H1.out.2.2.2.mono ?_
  rintro e w2 ⟨r, rfl, hr, b2⟩
  have hs2 := b2.size
  have hPr := H1.out.1.fresh b2
  have hSt := H1.out.2.1.fresh b2
  have hb2 := H1.out.2.2.1.trans (b2.mono H1.out.2.2.1.size)
  clear p0 p1 p2 s0 s1 s2 s3 s4 s5 s6 s7
  by_cases hr0 : r = 0
  case neg =>
    have d0 : (r == 0) = false := by simpa using hr0
    have hbx := rBoxed_any w2
    have H2 := Lib.hid (And.intro (hbx) (hb2))
    clear hbx hb2 hPr hSt hr b2
    go_wp2_with fail
    refine H2.out.1.mono ?_
    rintro e w3 ⟨rfl, b3⟩
    have hfin := HN.out _ (H2.out.2.trans (b3.mono H2.out.2.size))
    have H3 := Lib.hid (hfin)
    clear hfin b3
    go_wp2_with fail
    exact H3.out
  subst hr0
  obtain ⟨hsc, hsh⟩ := hr rfl
  have hP2 := H.out.2.2.2.2.1.below (hb2.mono hB)
  have hok := hsc.sok (st_i64 hP2)
  have hal := Go.Proofs.YtdlcooplllimeaaGreatDoor.all_any B cc s.cells.length CA s.cells w2 rfl hP2.a1 (by omega) (by have := hok.many.1; omega)
  have s0 := hSt.cell 0 (v := .slice CA s.cells.length cc) rfl
  have H2 := Lib.hid (And.intro (hal) (And.intro (hPr) (And.intro (hSt) (And.intro (hb2) (hok)))))
  clear hal hPr hSt hb2 hok hP2 hr hsc hsh b2
  go_wp2_with fail
  refine H2.out.1.mono ?_
  rintro e w3 ⟨b3, hres⟩
  have herr : allErr s.cells = 0 := allErr_zero H2.out.2.2.2.2.many.1 fun c hc => H2.out.2.2.2.2.wok hc
  rcases hres with ⟨-, A, d, rfl, hown⟩ | ⟨hne, -⟩
  rotate_left
  · exact absurd herr hne
  clear herr s0
  obtain ⟨n, hn⟩ : ∃ n, (allW s.cells).length = n := ⟨_, rfl⟩
  rw [hn]
  have hs3 := b3.size
  have hPr := H2.out.2.1.fresh b3
  have hSt := H2.out.2.2.1.fresh b3
  have hb3 := H2.out.2.2.2.1.trans (b3.mono H2.out.2.2.2.1.size)
  have hws := words_small H2.out.2.2.2.2
  rw [hn] at hws
  have hcr := cells_read w3.heap.size n d A (allW s.cells) s.cells w3 (hown.at_ fun x hx => allW_ok _ x hx) (Nat.le_refl _) rfl hn hws (cei_of H2.out.2.2.2.2 H.out.2.2.2.2.1.g) H2.out.2.2.2.2.many.1
  have H3 := Lib.hid (And.intro (hcr) (And.intro (hPr) (And.intro (hSt) (And.intro (hb3) (hn)))))
  clear hcr hPr hSt hb3 hn b3 hown
  go_wp2_with fail
  refine H3.out.1.mono ?_
  rintro e w4 ⟨LA, lc, rows, rfl, hce, b4⟩
  have hs4 := b4.size
  have hPr := H3.out.2.1.fresh b4
  have hSt := H3.out.2.2.1.fresh b4
  have hb4 := H3.out.2.2.2.1.trans (b4.mono H3.out.2.2.2.1.size)
  have hlr := hce.rd (cei_of H2.out.2.2.2.2 H.out.2.2.2.2.1.g)
  obtain ⟨s0, s1, s2, s3, s4, s5, s6, s7⟩ := hSt.cells8
  have H4 := Lib.hid (And.intro (hPr) (And.intro (hSt) (And.intro (hb4) (hlr))))
  clear hPr hSt hb4 hce hlr b4
  go_upto_region 8 with fail
  refine wp_world (fun V => Blk V w.heap.size 26 #[.slice FA pg.fns.length fc, .slice KA pg.consts.length kc, .slice XA pg.texts.length xc] ∧ Blk V (w.heap.size + 1) 32 #[.slice CA s.cells.length cc, .slice SA s.shapes.length sc, .slice TA s.texts.length tc, .slice HA s.threads.length hc, .slice EA s.ends.length ec, .slice DA s.said.length dc, .int .i64 s.asked, .int .i64 s.steps] ∧ Blk V w4.heap.size 32 #[.slice CA s.cells.length cc, .slice SA s.shapes.length sc, .slice TA s.texts.length tc, .slice HA s.threads.length hc, .slice EA s.ends.length ec, .slice DA s.said.length dc, .int .i64 s.asked, .int .i64 s.steps] ∧ Below w4.heap.size w4 V ∧ w4.heap.size + 1 ≤ V.heap.size) ⟨H4.out.1.alloc _, H4.out.2.1.alloc _, Blk.new _ _ _, (Below.refl _ _).alloc (Nat.le_refl _) _, by simp⟩ ?_
  clear s0 s1 s2 s3 s4 s5 s6 s7
  rintro V ⟨hPr, hSt, hSt2, hbV, hsV⟩
  obtain ⟨X, hX⟩ : ∃ X, w4.heap.size = X := ⟨_, rfl⟩
  rw [hX] at hSt2 hsV ⊢
  have hXl : w.heap.size + 2 ≤ X := by omega
  have q0 := hSt2.cell 0 (v := .slice CA s.cells.length cc) rfl
  have z0 := hSt2.frozen 0
  have hm1 : Blk (V.setCell ⟨X, 0, none⟩ (.slice LA s.cells.length lc)) X 32 #[.slice LA s.cells.length lc, .slice SA s.shapes.length sc, .slice TA s.texts.length tc, .slice HA s.threads.length hc, .slice EA s.ends.length ec, .slice DA s.said.length dc, .int .i64 s.asked, .int .i64 s.steps] := by
    have := hSt2.set_ 0 (.slice LA s.cells.length lc)
    simpa using this
  have hbs : Below w4.heap.size w4 (V.setCell ⟨X, 0, none⟩ (.slice LA s.cells.length lc)) := hbV.setCell (p := ⟨X, 0, none⟩) (show w4.heap.size ≤ X by omega) _
  have hPr2 := hPr.far (p := ⟨X, 0, none⟩) (show w.heap.size ≠ X by omega) (.slice LA s.cells.length lc)
  have hSt3 := hSt.far (p := ⟨X, 0, none⟩) (show w.heap.size + 1 ≠ X by omega) (.slice LA s.cells.length lc)
  have HV := Lib.hid (And.intro (hPr2) (And.intro (hSt3) (And.intro (hm1) (hbs))))
  clear hPr hSt hSt2 hbV hPr2 hSt3 hm1 hbs
  go_upto_region 9 with fail
  refine wp_world (fun U => Blk U w.heap.size 26 #[.slice FA pg.fns.length fc, .slice KA pg.consts.length kc, .slice XA pg.texts.length xc] ∧ Blk U (w.heap.size + 1) 32 #[.slice CA s.cells.length cc, .slice SA s.shapes.length sc, .slice TA s.texts.length tc, .slice HA s.threads.length hc, .slice EA s.ends.length ec, .slice DA s.said.length dc, .int .i64 s.asked, .int .i64 s.steps] ∧ Blk U X 32 #[.slice LA s.cells.length lc, .slice SA s.shapes.length sc, .slice TA s.texts.length tc, .slice HA s.threads.length hc, .slice EA s.ends.length ec, .slice DA s.said.length dc, .int .i64 s.asked, .int .i64 s.steps] ∧ Below w4.heap.size w4 U ∧ X + 1 ≤ U.heap.size) ⟨HV.out.1, HV.out.2.1, HV.out.2.2.1, HV.out.2.2.2, by simp; omega⟩ ?_
  clear q0 z0 HV
  rintro U ⟨hPr, hSt, hSt2, hbU, hsU⟩
  have hbU0 : Below w.heap.size w U := H4.out.2.2.1.trans (hbU.mono H4.out.2.2.1.size)
  have p0 := hPr.cell 0 (v := .slice FA pg.fns.length fc) rfl
  have p1 := hPr.cell 1 (v := .slice KA pg.consts.length kc) rfl
  have p2 := hPr.cell 2 (v := .slice XA pg.texts.length xc) rfl
  obtain ⟨s0, s1, s2, s3, s4, s5, s6, s7⟩ := hSt.cells8
  have hco := coll_any U B pg s FA KA XA CA SA TA HA EA DA fc kc xc cc sc tc hc ec dc (H.out.1.below (hbU0.mono hB)) (H.out.2.1.below (hbU0.mono hB)) (H.out.2.2.1.below (hbU0.mono hB)) H.out.2.2.2.1 (H.out.2.2.2.2.1.below (hbU0.mono hB)) (by omega) (H.out.2.2.2.2.2.fresh hbU0)
  have HU := Lib.hid (And.intro (hSt) (And.intro (hSt2) (And.intro (hbU) (And.intro (hbU0) (hco)))))
  clear hPr hSt hSt2 hbU hbU0 hco
  go_wp2_with fail
  refine HU.out.2.2.2.2.mono ?_
  rintro e w5 ⟨ys, YA, SA2, TA2, HA2, EA2, DA2, yc, sc2, tc2, hc2, ec2, dc2, n1, n2, n3, n4, n5, a2, b2, r, rfl, hys, hr1, hr2, b5⟩
  have hs5 := b5.size
  have hSt := HU.out.1.fresh b5
  have hSt2 := HU.out.2.1.fresh b5
  have hb5 := HU.out.2.2.1.trans (b5.mono HU.out.2.2.1.size)
  have H5 := Lib.hid (And.intro (hSt) (And.intro (hSt2) (And.intro (hb5) (And.intro (hys) (And.intro (hr1) (hr2))))))
  clear hSt hSt2 hb5 hys hr1 hr2 b5 p0 p1 p2 s0 s1 s2 s3 s4 s5 s6 s7
  go_upto_region 10 with fail
  refine wp_world (fun V => Blk V (w.heap.size + 1) 32 #[.slice CA s.cells.length cc, .slice SA s.shapes.length sc, .slice TA s.texts.length tc, .slice HA s.threads.length hc, .slice EA s.ends.length ec, .slice DA s.said.length dc, .int .i64 s.asked, .int .i64 s.steps] ∧ Blk V X 32 #[.slice LA s.cells.length lc, .slice SA s.shapes.length sc, .slice TA s.texts.length tc, .slice HA s.threads.length hc, .slice EA s.ends.length ec, .slice DA s.said.length dc, .int .i64 s.asked, .int .i64 s.steps] ∧ Blk V w5.heap.size 32 #[.slice YA ys.length yc, .slice SA2 n1 sc2, .slice TA2 n2 tc2, .slice HA2 n3 hc2, .slice EA2 n4 ec2, .slice DA2 n5 dc2, .int .i64 a2, .int .i64 b2] ∧ Below w5.heap.size w5 V ∧ w5.heap.size + 1 ≤ V.heap.size) ⟨H5.out.1.alloc _, H5.out.2.1.alloc _, Blk.new _ _ _, (Below.refl _ _).alloc (Nat.le_refl _) _, by simp⟩ ?_
  rintro V ⟨hSt, hSt2, hY, hbV, hsV⟩
  have y0 := hY.cell 0 (v := .slice YA ys.length yc) rfl
  have hyl : ys.length ≤ 300 := by
    by_cases h0 : r = 0
    · rw [H5.out.2.2.2.2.1 h0, gl_length]; exact H2.out.2.2.2.2.many.1
    · rw [H5.out.2.2.2.2.2 h0]; simp
  have hbV4 : Below w4.heap.size w4 V := H5.out.2.2.1.trans (hbV.mono H5.out.2.2.1.size)
  have hal := Go.Proofs.YtdlcooplllimeaaGreatDoor.all_any w5.heap.size yc ys.length YA ys V rfl (H5.out.2.2.2.1.below hbV) (by omega) (by omega)
  have HV := Lib.hid (And.intro (hSt) (And.intro (hSt2) (And.intro (hbV4) (hal))))
  clear hSt hSt2 hbV hbV4 hal hY
  go_wp2_with fail
  refine HV.out.2.2.2.mono ?_
  rintro e w6 ⟨b6, hres⟩
  have hs6 := b6.size
  have hSt := HV.out.1.fresh b6
  have hSt2 := HV.out.2.1.fresh b6
  have hb6 : Below w4.heap.size w4 w6 := HV.out.2.2.1.trans (b6.mono HV.out.2.2.1.size)
  obtain ⟨VA, vn, vc, h2, rfl, hq⟩ : ∃ (VA : Option Addr) (vn vc : Nat) (h2 : Int), e = .returned (.tuple #[.slice VA vn vc, .int .i64 h2]) ∧ (r = 0 → h2 = 0 ∧ vn ≤ n) := by
    rcases hres with ⟨-, A2, d2, rfl, -⟩ | ⟨hne, rfl⟩
    · refine ⟨A2, _, d2, 0, rfl, fun h0 => ⟨rfl, ?_⟩⟩
      rw [← H3.out.2.2.2.2, H5.out.2.2.2.2.1 h0]
      exact gl_len _ _
    · refine ⟨none, 0, 0, allErr ys, rfl, fun h0 => absurd ?_ hne⟩
      rw [H5.out.2.2.2.2.1 h0]
      exact allErr_zero (by rw [gl_length]; exact H2.out.2.2.2.2.many.1) (gl_mem fun x hx n => (H2.out.2.2.2.2.wok hx).gone)
  have hb60 : Below w.heap.size w w6 := H4.out.2.2.1.trans (hb6.mono H4.out.2.2.1.size)
  have hbx := rBoxed_any w6
  have H6 := Lib.hid (And.intro (hSt) (And.intro (hSt2) (And.intro (hb6) (And.intro (hb60) (And.intro (hbx) (hq))))))
  clear hSt hSt2 hb6 hb60 hbx hq b6 hres y0
  go_wp2_with fail
  refine H6.out.2.2.2.2.1.mono ?_
  rintro e w7 ⟨rfl, b7⟩
  have hs7 := b7.size
  have hSt := H6.out.1.fresh b7
  have hSt2 := H6.out.2.1.fresh b7
  have hb7 := H6.out.2.2.2.1.trans (b7.mono H6.out.2.2.2.1.size)
  have hb74 := H6.out.2.2.1.trans (b7.mono H6.out.2.2.1.size)
  obtain ⟨s0, s1, s2, s3, s4, s5, s6, s7⟩ := hSt.cells8
  obtain ⟨t0, t1, t2, t3, t4, t5, t6, t7⟩ := hSt2.cells8
  have hst1 := H.out.2.2.2.2.1.below (hb7.mono hB)
  have hst2 : StP w7 w4.heap.size s LA SA TA HA EA DA lc sc tc hc ec dc := by
    obtain ⟨LA', lc', e1, k1, k2, -, hat⟩ := H4.out.2.2.2
    injection e1 with e1
    injection e1 with e1 _ e2
    subst e1 e2
    have h4 : B ≤ w4.heap.size := by omega
    exact ⟨hat.below hb74, hst1.a2.more h4, hst1.a3.more h4, hst1.a4.more h4, hst1.a5.more h4, hst1.a6.more h4, ⟨k1, k2⟩, hst1.k2, hst1.k3, hst1.k4, hst1.k5, hst1.k6⟩
  have h4 : B ≤ w4.heap.size := by omega
  have hsm := same_any w4.heap.size s CA SA TA HA EA DA cc sc tc hc ec dc LA SA TA HA EA DA lc sc tc hc ec dc w7 ⟨hst1.a1.more h4, hst1.a2.more h4, hst1.a3.more h4, hst1.a4.more h4, hst1.a5.more h4, hst1.a6.more h4, hst1.k1, hst1.k2, hst1.k3, hst1.k4, hst1.k5, hst1.k6⟩ hst2 (by omega)
  have H7 := Lib.hid (And.intro (hb7) (hsm))
  clear hSt hSt2 hb7 hb74 hst1 hst2 hsm b7 h4
  go_wp2_with fail
  refine H7.out.2.mono ?_
  rintro e w8 ⟨rfl, b8⟩
  have hfin := HN.out _ (H7.out.1.trans (b8.mono H7.out.1.size))
  clear s0 s1 s2 s3 s4 s5 s6 s7 t0 t1 t2 t3 t4 t5 t6 t7
  have H8 := Lib.hid (hfin)
  clear hfin b8
  by_cases h0 : r = 0
  · obtain ⟨hh, hv⟩ := H6.out.2.2.2.2.2 h0
    subst h0 hh
    have d1 : decide (vn ≤ n) = true := decide_eq_true hv
    have d2 : decide ((vn : Int) ≤ (n : Int)) = true := decide_eq_true (by omega)
    go_wp2_with fail
    exact H8.out
  · have d0 : (r == 0) = false := by simpa using h0
    go_wp2_with fail
    exact H8.out
end Top
end Go.Proofs.YtdlcooplllimeaaGreatDoor
