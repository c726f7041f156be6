/- KW: KwC, KwD. -/
import Derived.Test.YtdlcooplllimeaaGreatDoorKW3
import Derived.Test.YtdlcooplllimeaaGreatDoorKW6
import Derived.Test.YtdlcooplllimeaaGreatDoorKT1
/- words: a reader of words: a frame. -/
namespace Go.Proofs.YtdlcooplllimeaaGreatDoor
open Go.RowKit

attribute [local go_sem ↓] Go.wp_at_zero Go.wp_at_succ

namespace Top
structure FrI (f : Fr) : Prop where
  i : I64 f.fn ∧ I64 f.at_ ∧ I64 f.fto ∧ I64 f.gen
  self : rightV f.self ∧ Flat.ok f.self
  regs : ∀ v ∈ f.regs, rightV v ∧ Flat.ok v
  tries : ∀ v ∈ f.tries, Flat.ok v
  many : f.regs.length ≤ 60 ∧ f.tries.length ≤ 20
def FrP (f : Fr) (R B : Nat) (A : Option Addr) (n c at_ : Nat) (ws : List U64) (w : World) (e : Ending) (w' : World) : Prop :=
  ∃ RA rc TA tc, e = .returned (.agg #[.int .i64 f.fn, .int .i64 f.at_, .int .i64 f.fto, .int .i64 f.gen, .int .i64 f.self.1, .int .i64 f.self.2, .slice RA f.regs.length rc, .slice TA f.tries.length tc]) ∧ RdS w' R B A n c at_ ws ∧ Tr R w w' ∧ Own w' w.heap.size 48 RA rc f.regs ∧ Own w' w.heap.size 200 TA tc f.tries
theorem tr_set {R : Nat} {w m : World} (h : Tr R w m) {G : Nat} (hG : w.heap.size ≤ G) (i : Nat) (u : Value) : Tr R w (m.setCell ⟨G, i, none⟩ u) :=
  ⟨h.os, h.tape, h.output, by have := h.size; simp; exact this, fun g hg hF => (Below.heap_setCell _ _ _ _ (show g ≠ G by omega)).trans (h.block g hg hF)⟩
structure FS (w0 : World) (R B : Nat) (A : Option Addr) (n c : Nat) (ws : List U64) (f : Fr) (G0 G i : Nat) (RA : Option Addr) (rc : Nat) (TA : Option Addr) (tc at_ : Nat) (m : World) : Prop where
  rd : RdS m R B A n c at_ ws
  t : Tr R w0 m
  g0 : Blk m G0 141 #[.int .i64 0, .int .i64 0, .int .i64 0, .int .i64 0, .int .i64 0, .int .i64 0, .slice none 0 0, .slice none 0 0]
  g : Blk m G 141 #[.int .i64 f.fn, .int .i64 f.at_, .int .i64 f.fto, .int .i64 f.gen, .int .i64 f.self.1, .int .i64 f.self.2, .slice RA f.regs.length rc, .slice TA i tc]
  ro : Own m w0.heap.size 48 RA rc f.regs
  to_ : Own m w0.heap.size 200 TA tc (f.tries.take i)
  lt : w0.heap.size ≤ G0 ∧ G0 < G
section
variable {w0 m m' : World} {R B n c G0 G i rc tc at_ at2 : Nat} {A RA TA : Option Addr} {ws : List U64} {f : Fr}
theorem FS.call (h : FS w0 R B A n c ws f G0 G i RA rc TA tc at_ m) (hr : RdS m' R B A n c at2 ws) (ht : Tr R m m') : FS w0 R B A n c ws f G0 G i RA rc TA tc at2 m' :=
  ⟨hr, h.t.trans ht, ht.blk h.rd.r h.g0 (by decide), ht.blk h.rd.r h.g (by decide), ht.own h.rd.r h.ro (by decide), ht.own h.rd.r h.to_ (by decide), h.lt⟩
theorem FS.fresh (h : FS w0 R B A n c ws f G0 G i RA rc TA tc at_ m) (hb : Below m.heap.size m m') : FS w0 R B A n c ws f G0 G i RA rc TA tc at_ m' :=
  h.call (h.rd.fresh hb) (Touch.ofBelow hb)
theorem FS.drew (h : FS w0 R B A n c ws f G0 G i RA rc TA tc at_ m) : FS w0 R B A n c ws f G0 G i RA rc TA tc at_ m.drew := ⟨⟨h.rd.r, h.rd.a, h.rd.n, h.rd.hB⟩, Touch.drew h.t, h.g0, h.g, h.ro, h.to_, h.lt⟩
theorem FS.app {TA' : Option Addr} {tc' : Nat} {v : Int × Int} (h : FS w0 R B A n c ws f G0 G i RA rc TA tc at_ m) (ho : Own m' w0.heap.size 200 TA' tc' (f.tries.take i ++ [v])) (hg : m.grownBy m' (rowOf TA)) (_hR : R < w0.heap.size) (hB : B ≤ w0.heap.size) :
    Blk m' G 141 #[.int .i64 f.fn, .int .i64 f.at_, .int .i64 f.fto, .int .i64 f.gen, .int .i64 f.self.1, .int .i64 f.self.2, .slice RA f.regs.length rc, .slice TA i tc] ∧ (f.tries.take (i + 1) = f.tries.take i ++ [v] → FS w0 R B A n c ws f G0 G (i + 1) RA rc TA' tc' at_ (m'.setCell ⟨G, 7, none⟩ (.slice TA' (i + 1) tc'))) := by
  have hl := h.lt
  have g1 := h.g.grown hg (own_ne_ty h.to_ h.g (by decide))
  have g01 := h.g0.grown hg (own_ne_ty h.to_ h.g0 (by decide))
  have r1 := h.rd.r.grown hg (own_ne_ty h.to_ h.rd.r (by decide))
  have o1 := h.ro.grown hg (fun g hg' e => own_own_ty h.ro h.to_ (by decide) g hg' e)
  have ms := h.t.size
  refine ⟨g1, fun htk => ⟨⟨r1.far (blk_ne_tyW r1 g1 (by decide)) _, (h.rd.a.below ((Below.refl B _).grown hg (by omega) (fun g hg' => by have := (h.to_.lt g hg').1; omega))).setCell (p := ⟨G, 7, none⟩) (show B ≤ G by omega) _, h.rd.n, h.rd.hB⟩, tr_set ⟨hg.os.trans h.t.os, hg.tape.trans h.t.tape, hg.output.trans h.t.output, by have := hg.size; omega, fun g hgl hF => (hg.block g (by omega) (fun e => by have := (h.to_.lt g e.symm).1; omega)).trans (h.t.block g hgl hF)⟩ (by omega) 7 _, g01.far (show G0 ≠ G by omega) _, ?_, o1.setCell _ _ (own_ne_ty o1 g1 (by decide)), by rw [htk]; exact ho.setCell _ _ (own_ne_ty ho g1 (by decide)), h.lt⟩⟩
  have := g1.set_ 7 (.slice TA' (i + 1) tc')
  simpa using this
theorem FS.done (h : FS w0 R B A n c ws f G0 G i RA rc TA tc at_ m) (hB : B ≤ w0.heap.size) (hR : R < w0.heap.size) (cs : Array Value) :
    RdS (m.setRow G0 cs) R B A n c at_ ws ∧ Tr R w0 (m.setRow G0 cs) ∧ Own (m.setRow G0 cs) w0.heap.size 48 RA rc f.regs ∧ Own (m.setRow G0 cs) w0.heap.size 200 TA tc (f.tries.take i) := by
  have hl := h.lt
  refine ⟨⟨h.rd.r.setRow_far (show R ≠ G0 by omega), h.rd.a.keep (fun p hp => by
    unfold World.cell?
    rw [setRow_other m G0 p.block _ (fun e => by omega)]), h.rd.n, h.rd.hB⟩, ⟨h.t.os, h.t.tape, h.t.output, by have := h.t.size; simp; exact this, fun g hg hF => (setRow_other m G0 g _ (by omega)).trans (h.t.block g hg hF)⟩, h.ro.setRow (own_ne_ty h.ro h.g0 (by decide)), h.to_.setRow (own_ne_ty h.to_ h.g0 (by decide))⟩
end
theorem triesW_get : ∀ {l : List (Int × Int)} {i : Nat} {v : Int × Int}, l[i]? = some v → (triesW l)[2 * i]? = some (wd v.1) ∧ (triesW l)[2 * i + 1]? = some (wd v.2)
  | [], i, v, h => by simp at h
  | x :: l, 0, v, h => by
    simp at h
    subst h
    exact ⟨rfl, rfl⟩
  | x :: l, i + 1, v, h => by
    have h1 := triesW_get (l := l) (i := i) (v := v) (by simpa using h)
    have e : triesW (x :: l) = wd x.1 :: wd x.2 :: triesW l := rfl
    rw [e, show 2 * (i + 1) = 2 * i + 1 + 1 by omega, List.getElem?_cons_succ, List.getElem?_cons_succ, List.getElem?_cons_succ, List.getElem?_cons_succ]
    exact h1
set_option maxHeartbeats 3200000 in
set_option maxRecDepth 100000 in
theorem frame_read (R B n c k : Nat) (A : Option Addr) (ws : List U64) (f : Fr) (w : World) (h : RdS w R B A n c k ws) (hx : Sg ws k (frameW bxT f)) (hf : FrI f) (hn : n ≤ 1073741824) :
    Calls Tryz.prog 98 #[.pointer (some ⟨R, 0, none⟩)] w (FrP f R B A n c (k + (frameW bxT f).length) ws w) := by
  obtain ⟨P, hP⟩ : ∃ P, FrP f R B A n c (k + (frameW bxT f).length) ws w = P := ⟨_, rfl⟩
  have HP := Lib.hid hP; rw [hP]; clear hP
  obtain ⟨i0, hi, hz0, hz1, hz2⟩ := info_parts infoTry
  have hRl := h.r.lt
  have hx5 : Sg ws k ([wd f.fn, wd f.at_, wd f.fto, wd f.gen] ++ ([boxW bxT f.self] ++ (valsW bxT f.regs ++ ([wd f.tries.length] ++ triesW f.tries)))) := by
    have e : frameW bxT f = [wd f.fn, wd f.at_, wd f.fto, wd f.gen] ++ ([boxW bxT f.self] ++ (valsW bxT f.regs ++ ([wd f.tries.length] ++ triesW f.tries))) := by unfold frameW; simp only [List.append_assoc]
    rw [← e]; exact hx
  have x1 := hx5.left
  have x2 : ws[k + 4]? = some (boxW bxT f.self) := Sg.head hx5.right
  have x3 : Sg ws (k + 5) (valsW bxT f.regs ++ ([wd f.tries.length] ++ triesW f.tries)) := Sg.tail hx5.right
  have x4 : Sg ws (k + 5 + (valsW bxT f.regs).length) (wd f.tries.length :: triesW f.tries) := x3.right
  have hn1 := number_any R B n c k A ws f.fn
  have y1 : ws[k + 1]? = some (wd f.at_) := x1.get (i := 1) rfl
  have y2 : ws[k + 2]? = some (wd f.fto) := x1.get (i := 2) rfl
  have y3 : ws[k + 3]? = some (wd f.gen) := x1.get (i := 3) rfl
  have H := Lib.hid (And.intro (h) (And.intro (hf) (And.intro (x1.head) (And.intro (y1) (And.intro (y2) (And.intro (y3) (And.intro (x2) (And.intro (x3.left) (x4)))))))))
  clear h hf x1 y1 y2 y3 x2 x3 x4 hx hx5
  go_enter Tryz.func98, Tryz.ntmps98
  go_upto_region 1 with fail
  refine wp_world (fun W => Blk W w.heap.size 141 #[.int .i64 0, .int .i64 0, .int .i64 0, .int .i64 0, .int .i64 0, .int .i64 0, .slice none 0 0, .slice none 0 0] ∧ Below w.heap.size w W ∧ w.heap.size + 1 ≤ W.heap.size) ⟨Blk.new _ _ _, (Below.refl _ _).alloc (Nat.le_refl _) _, by simp⟩ ?_
  rintro W ⟨hG, hbW, hsW⟩
  have r0 := H.out.1.fresh hbW
  have hc := number_any R B n c k A ws f.fn W r0 H.out.2.2.1 H.out.2.1.i.1 hn
  have HW := Lib.hid (And.intro (hc) (And.intro (hG) (And.intro ((Touch.ofBelow (F := fun g => g = R) hbW)) (r0))))
  clear hc hG hbW r0 hn1
  go_wp2_with fail
  refine HW.out.1.mono ?_
  rintro e w1 ⟨rfl, r1, t1⟩
  have hc := number_any R B n c (k + 1) A ws f.at_ w1 r1 H.out.2.2.2.1 H.out.2.1.i.2.1 hn
  have H1 := Lib.hid (And.intro (hc) (And.intro (r1) (t1)))
  clear hc r1 t1
  go_wp2_with fail
  refine H1.out.1.mono ?_
  rintro e w2 ⟨rfl, r2, t2⟩
  have hc := number_any R B n c (k + 2) A ws f.fto w2 r2 H.out.2.2.2.2.1 H.out.2.1.i.2.2.1 hn
  have H2 := Lib.hid (And.intro (hc) (And.intro (r2) ((H1.out.2.2.trans t2))))
  clear hc r2 t2
  go_wp2_with fail
  refine H2.out.1.mono ?_
  rintro e w3 ⟨rfl, r3, t3⟩
  have hc := number_any R B n c (k + 3) A ws f.gen w3 r3 H.out.2.2.2.2.2.1 H.out.2.1.i.2.2.2 hn
  have H3 := Lib.hid (And.intro (hc) (And.intro (r3) ((H2.out.2.2.trans t3))))
  clear hc r3 t3
  go_wp2_with fail
  refine H3.out.1.mono ?_
  rintro e w4 ⟨rfl, r4, t4⟩
  have t4' : Tr R W w4 := H3.out.2.2.trans t4
  have g4 := t4'.blk HW.out.2.2.2.r HW.out.2.1 (by decide)
  have hs4 := t4'.size
  have H4 := Lib.hid (And.intro (r4) (And.intro (((show Tr R w W from HW.out.2.2.1).trans t4')) (g4)))
  clear r4 t4 t4' g4
  go_upto_region 2 with fail
  refine wp_world (fun V => RdS V R B A n c (k + 4) ws ∧ Tr R w V ∧ Blk V w.heap.size 141 #[.int .i64 0, .int .i64 0, .int .i64 0, .int .i64 0, .int .i64 0, .int .i64 0, .slice none 0 0, .slice none 0 0] ∧ Blk V w4.heap.size 141 #[.int .i64 f.fn, .int .i64 f.at_, .int .i64 f.fto, .int .i64 f.gen, .int .i64 0, .int .i64 0, .slice none 0 0, .slice none 0 0] ∧ w4.heap.size + 1 ≤ V.heap.size) ⟨H4.out.1.fresh ((Below.refl _ _).alloc (Nat.le_refl _) _), H4.out.2.1.alloc _, H4.out.2.2.alloc _, Blk.new _ _ _, by simp⟩ ?_
  rintro V ⟨r5, t5, g5, f5, s5⟩
  obtain ⟨G, hG⟩ : ∃ G, w4.heap.size = G := ⟨_, rfl⟩
  rw [hG] at f5 s5 ⊢
  have hGw : w.heap.size < G := by omega
  have hc := value_any R B n c (k + 4) A ws f.self V r5 H.out.2.2.2.2.2.2.1 H.out.2.1.self.1 hn
  have HV := Lib.hid (And.intro (hc) (And.intro (r5) (And.intro (t5) (And.intro (g5) (f5)))))
  clear hc r5 t5 g5 f5 hG
  go_wp2_with fail
  refine HV.out.1.mono ?_
  rintro e w5 ⟨rfl, r6, t6⟩
  have g6 := t6.blk HV.out.2.1.r HV.out.2.2.2.1 (by decide)
  have f6 := t6.blk HV.out.2.1.r HV.out.2.2.2.2 (by decide)
  have t6' : Tr R w w5 := HV.out.2.2.1.trans t6
  have hs6 := t6.size
  have nR := blk_ne_tyW r6.r f6 (by decide)
  have n0 : w.heap.size ≠ G := by omega
  have c4 := f6.cell 4 (v := .int .i64 0) rfl
  have c5 := f6.cell 5 (v := .int .i64 0) rfl
  have z4 := f6.frozen 4
  have z5 := f6.frozen 5
  have f7 : Blk ((w5.setCell ⟨G, 4, none⟩ (.int .i64 f.self.1)).setCell ⟨G, 5, none⟩ (.int .i64 f.self.2)) G 141 #[.int .i64 f.fn, .int .i64 f.at_, .int .i64 f.fto, .int .i64 f.gen, .int .i64 f.self.1, .int .i64 f.self.2, .slice none 0 0, .slice none 0 0] := by
    have := (f6.set_ 4 (.int .i64 f.self.1)).set_ 5 (.int .i64 f.self.2)
    simpa using this
  have g7 := (g6.far (p := ⟨G, 4, none⟩) n0 (.int .i64 f.self.1)).far (p := ⟨G, 5, none⟩) n0 (.int .i64 f.self.2)
  have hGR : B ≤ G := by have := H.out.1.hB; omega
  have r7 : RdS ((w5.setCell ⟨G, 4, none⟩ (.int .i64 f.self.1)).setCell ⟨G, 5, none⟩ (.int .i64 f.self.2)) R B A n c (k + 5) ws := ⟨(r6.r.far (p := ⟨G, 4, none⟩) nR (.int .i64 f.self.1)).far (p := ⟨G, 5, none⟩) nR (.int .i64 f.self.2), (r6.a.setCell (p := ⟨G, 4, none⟩) hGR _).setCell (p := ⟨G, 5, none⟩) hGR _, r6.n, r6.hB⟩
  have t7 : Tr R w ((w5.setCell ⟨G, 4, none⟩ (.int .i64 f.self.1)).setCell ⟨G, 5, none⟩ (.int .i64 f.self.2)) := tr_set (tr_set t6' (by omega) 4 _) (by omega) 5 _
  have H5 := Lib.hid (And.intro (r7) (And.intro (t7) (And.intro (g7) (f7))))
  clear r7 t7 g7 f7 r6 t6 t6' g6 f6 nR
  go_upto_region 3 with fail
  refine wp_world (fun V => RdS V R B A n c (k + 5) ws ∧ Tr R w V ∧ Blk V w.heap.size 141 #[.int .i64 0, .int .i64 0, .int .i64 0, .int .i64 0, .int .i64 0, .int .i64 0, .slice none 0 0, .slice none 0 0] ∧ Blk V G 141 #[.int .i64 f.fn, .int .i64 f.at_, .int .i64 f.fto, .int .i64 f.gen, .int .i64 f.self.1, .int .i64 f.self.2, .slice none 0 0, .slice none 0 0] ∧ w5.heap.size ≤ V.heap.size) ⟨H5.out.1, H5.out.2.1, H5.out.2.2.1, H5.out.2.2.2, by simp⟩ ?_
  rintro V2 ⟨r8, t8, g8, f8, s8⟩
  clear c4 c5 z4 z5
  have hc := values_any R B n c (k + 5) A ws f.regs 60 V2 r8 H.out.2.2.2.2.2.2.2.1 H.out.2.1.regs (by have := H.out.2.1.many.1; omega) (by have := H.out.2.1.many.1; omega) hn
  have HV2 := Lib.hid (And.intro (hc) (And.intro (r8) (And.intro (t8) (And.intro (g8) (f8)))))
  clear hc r8 t8 g8 f8
  go_wp2_with fail
  refine HV2.out.1.mono ?_
  rintro e w6 ⟨RA, rc, rfl, r9, t9, o9⟩
  have g9 := t9.blk HV2.out.2.1.r HV2.out.2.2.2.1 (by decide)
  have f9 := t9.blk HV2.out.2.1.r HV2.out.2.2.2.2 (by decide)
  have t9' : Tr R w w6 := HV2.out.2.2.1.trans t9
  have hs9 := t9.size
  have nR := blk_ne_tyW r9.r f9 (by decide)
  have c6 := f9.cell 6 (v := .slice none 0 0) rfl
  have z6 := f9.frozen 6
  have fa : Blk (w6.setCell ⟨G, 6, none⟩ (.slice RA f.regs.length rc)) G 141 #[.int .i64 f.fn, .int .i64 f.at_, .int .i64 f.fto, .int .i64 f.gen, .int .i64 f.self.1, .int .i64 f.self.2, .slice RA f.regs.length rc, .slice none 0 0] := by
    have := f9.set_ 6 (.slice RA f.regs.length rc)
    simpa using this
  have hFS : FS w R B A n c ws f w.heap.size G 0 RA rc none 0 (k + 5 + (valsW bxT f.regs).length) (w6.setCell ⟨G, 6, none⟩ (.slice RA f.regs.length rc)) :=
    ⟨⟨r9.r.far (p := ⟨G, 6, none⟩) nR _, r9.a.setCell (p := ⟨G, 6, none⟩) hGR _, r9.n, r9.hB⟩, tr_set t9' (by omega) 6 _, g9.far (p := ⟨G, 6, none⟩) n0 _, fa, (o9.base_le (by omega)).setCell _ _ (own_ne_ty o9 f9 (by decide)), by simpa using Own.nil_, ⟨Nat.le_refl _, hGw⟩⟩
  have H9 := Lib.hid (hFS)
  clear hFS fa r9 t9 t9' o9 g9 f9 nR
  go_upto_region 4 with fail
  refine wp_world (fun V => FS w R B A n c ws f w.heap.size G 0 RA rc none 0 (k + 5 + (valsW bxT f.regs).length) V ∧ w6.heap.size ≤ V.heap.size) ⟨H9.out, by simp⟩ ?_
  rintro V3 ⟨hV3, s3⟩
  clear c6 z6
  obtain ⟨kk, hkk⟩ : ∃ kk, k + 5 + (valsW bxT f.regs).length = kk := ⟨_, rfl⟩
  rw [hkk] at hV3
  obtain ⟨tn, htn⟩ : ∃ tn, f.tries.length = tn := ⟨_, rfl⟩
  have x4 : Sg ws kk (wd f.tries.length :: triesW f.tries) := by have := H.out.2.2.2.2.2.2.2.2; rw [hkk] at this; exact this
  have hc := many_any R B n c kk A ws f.tries.length 20 V3 hV3.rd x4.head (by have := H.out.2.1.many.2; omega) (by have := H.out.2.1.many.2; omega) hn
  have htl : tn ≤ 20 := by have := H.out.2.1.many.2; omega
  rw [htn] at hc
  have HW3 := Lib.hid (And.intro (hc) (And.intro (hV3) (And.intro (hkk) (And.intro (htn) ((Sg.tail x4))))))
  clear hc hV3 hkk htn x4
  go_wp2_with fail
  refine HW3.out.1.mono ?_
  rintro e w7 ⟨rfl, r7, t7⟩
  have hF7 := HW3.out.2.1.call r7 t7
  have hs7 := t7.size
  have H7 := Lib.hid (hF7)
  clear hF7 r7 t7
  go_wp2_with fail
  go_loopg [4] (tn) (fun gk nv wr => ∃ (i j : Nat) (TA : Option Addr) (tc : Nat), i ≤ tn ∧ gk = tn - i ∧ j ≤ tn ∧ nv = .int .i64 j ∧ Hid (i + j = tn ∧ FS w R B A n c ws f w.heap.size G i RA rc TA tc (kk + 1 + 2 * i) wr) ∧ w7.heap.size ≤ wr.heap.size)
  case atStart => exact ⟨0, tn, none, 0, Nat.zero_le _, by omega, Nat.le_refl _, rfl, ⟨by omega, H7.out⟩, Nat.le_refl _⟩
  case round =>
    obtain ⟨i, j, TA, tc, hil, rfl, hjl, rfl, hkeep, hsz⟩ := hrel
    have q2 := hkeep.out.2.rd.r.cell 2 (v := .bool false) rfl
    by_cases hj : 0 < j
    · obtain ⟨j', rfl⟩ : ∃ j', j = j' + 1 := ⟨j - 1, by omega⟩
      have hij := hkeep.out.1
      have hit : i < f.tries.length := by have := HW3.out.2.2.2.1; omega
      obtain ⟨v, hv⟩ : ∃ v, f.tries[i]? = some v := ⟨_, List.getElem?_eq_getElem hit⟩
      have hok := H.out.2.1.tries v (List.mem_of_getElem? hv)
      have hF0 := hkeep.out.2.drew
      obtain ⟨y0, y1⟩ := triesW_get hv
      have y0' : ws[kk + 1 + 2 * i]? = some (wd v.1) := HW3.out.2.2.2.2.get y0
      have y1' : ws[kk + 1 + 2 * i + 1]? = some (wd v.2) := by have := HW3.out.2.2.2.2.get y1; rw [← Nat.add_assoc] at this; exact this
      have hc := number_any R B n c (kk + 1 + 2 * i) A ws v.1 wr.drew hF0.rd y0' hok.1 hn
      have hlt : (f.tries.take i).length = i := by rw [List.length_take]; omega
      have htk : f.tries.take (i + 1) = f.tries.take i ++ [v] := by rw [List.take_add_one, hv]; rfl
      have d0 : decide ((0 : Int) < (j' : Int) + 1) = true := decide_eq_true (by omega)
      have d1 : (0 : Int) < (j' : Int) + 1 := by omega
      have u7a := hF0.g.cell 7 (v := .slice TA i tc) rfl
      have u7a' : wr.cell? ⟨G, 7, none⟩ = some (.slice TA i tc) := u7a
      have hRw : R < w.heap.size := hRl
      have hBw : B ≤ w.heap.size := by have := H.out.1.hB; omega
      have HX := Lib.hid (And.intro (hc) (And.intro (hF0) (And.intro (hij) (And.intro (y1') (And.intro (hok) (And.intro (hlt) (htk)))))))
      clear hc hF0 hij y1' hok hlt htk hkeep hv y0 y1 y0' hit
      go_upto_region 7 with fail
      clear q2
      refine wp_region_T (S := (fun w' => w'.cell? ⟨G, 7, none⟩ = some (.slice TA i tc))) (Z := (fun _ => True)) 10 (by kernel_rfl) ?_ (fun hHeld0 => ?_)
      · first | trivial | ((try dsimp only); (first | exact u7e | exact u7d | exact u7c | exact u7b | exact u7a))
      refine ttk 0 rfl ?_
      try go_frame
      refine ttk 1 rfl ?_
      try go_frame
      refine ttk 2 rfl ?_
      try go_frame
      refine ttk 4 rfl ?_
      try go_frame
      refine callT 3 (by kernel_rfl) (by decide) rfl (fun K hK => ?_)
      go_simp
      go_at_call 95; refine HX.out.1.mono ?_; rintro e w1 ⟨rfl, r1, t1⟩; have hsz1 : wr.heap.size ≤ w1.heap.size := t1.size; have F1 := HX.out.2.1.call r1 t1; have u7b := F1.g.cell 7 (v := .slice TA i tc) rfl; have HN2 := Lib.hid (number_any R B n c (kk + 1 + 2 * i + 1) A ws v.2 w1 r1 HX.out.2.2.2.1 HX.out.2.2.2.2.1.2 hn)
      try (go_wp2_with fail)
      refine hK.out _ _ ?_ (fun hHeld1 => ?_)
      · first | trivial | ((try dsimp only); (first | exact u7e | exact u7d | exact u7c | exact u7b | exact u7a))
      clear hK K hHeld0
      try go_frame
      refine callT 5 (by kernel_rfl) (by decide) rfl (fun K hK => ?_)
      go_simp
      go_at_call 95; refine HN2.out.mono ?_; rintro e w2 ⟨rfl, r2, t2⟩; have hsz2 := t2.size; have F2 := F1.call r2 t2; have u7c := F2.g.cell 7 (v := .slice TA i tc) rfl; have F3 := F2.fresh ((Below.refl _ _).alloc (Nat.le_refl _) (.cells #[.int .i64 v.1, .int .i64 v.2] 200)); have u7d := F3.g.cell 7 (v := .slice TA i tc) rfl; have hs2 := F2.t.size
      try (go_wp2_with fail)
      refine hK.out _ _ ?_ (fun hHeld2 => ?_)
      · first | trivial | ((try dsimp only); (first | exact u7e | exact u7d | exact u7c | exact u7b | exact u7a))
      clear hK K hHeld1
      try go_frame
      refine ttk 6 rfl ?_
      try go_frame
      refine callT 7 (by kernel_rfl) (by decide) rfl (fun K hK => ?_)
      go_simp
      refine hK.out _ _ ?_ (fun hHeld3 => ?_)
      · first | trivial | ((try dsimp only); (first | exact u7e | exact u7d | exact u7c | exact u7b | exact u7a))
      clear hK K hHeld2
      try go_frame
      refine callT 8 (by kernel_rfl) (by decide) rfl (fun K hK => ?_)
      refine step_app (α := Int × Int) (n := i) (m := 1) (nm := i + 1) (r := [v]) (by rfl) (.tmp 34) (.tmp 40) _ (by rfl) w.heap.size 200 i0 _ 16 Tryz.underlying139 hi hz0 hz1 hz2 rfl (by decide) pair_oneT (by rfl) HX.out.2.2.2.2.2.1 F3.to_ (by rfl) (At.built w2 _ _ [v] rfl (by intro z hz; simp at hz; subst hz; exact HX.out.2.2.2.2.1)) rfl rfl (by omega) (by simp only [maxLen]; omega) F3.t.size ?_; intro TA4 tc4 w4 hown4 hgr4 hat4; have F4 := F3.app hown4 hgr4 hRw hBw; have u7e := F4.1.cell 7 (v := .slice TA i tc) rfl; have z7e := F4.1.frozen 7; have hs4 := hgr4.size; rw [World.size_alloc] at hs4
      refine hK.out _ _ ?_ (fun hHeld4 => ?_)
      · first | trivial | ((try dsimp only); (first | exact u7e | exact u7d | exact u7c | exact u7b | exact u7a))
      clear hK K hHeld3
      try go_frame
      refine ttk 9 rfl ?_
      try go_frame
      refine lastT (by kernel_rfl) rfl (fun K hK => ?_)
      go_simp
      refine hK.out _ _ ?_ (fun hHeld5 => ?_)
      · trivial
      clear hK K hHeld4
      try go_frame
      refine wpAnyH_done (by kernel_rfl) ?_ _
      have hF5 := F4.2 HX.out.2.2.2.2.2.2
      have HF5 := Lib.hid hF5; clear hF5 F4 F3 F2 F1 u7b u7c u7d u7e z7e hown4 hgr4 hat4 r1 r2 t1 t2 HN2
      go_wp2_with fail
      go_roundg (tn - (i + 1))
      case measure => have := HX.out.2.2.1; omega
      case rel => exact ⟨i + 1, j', TA4, tc4, by have := HX.out.2.2.1; omega, rfl, by omega, by go_num, ⟨by have := HX.out.2.2.1; omega, by have h9 := HF5.out; rw [show kk + 1 + 2 * (i + 1) = kk + 1 + 2 * i + 1 + 1 by omega]; exact h9⟩, by simp; omega⟩
    · obtain rfl : j = 0 := by omega
      have hin : i = tn := by have := hkeep.out.1; omega
      subst hin
      have hF := hkeep.out.2
      have HK := Lib.hid (hF)
      clear hF hkeep
      go_wp2_with (first | (refine wpList_ld rfl 141 (.tmp 3) rfl G rfl HK.out.g Tryz.underlying141 rfl (by kernel_rfl) ?_) | (refine wpList_st rfl 141 (.tmp 2) (.tmp 43) rfl w.heap.size rfl rfl HK.out.g0 (by kernel_rfl) rfl rfl ?_))
      refine bodyPost_ret (results_cell1T rfl _ _ w.heap.size _ _ _ rfl HK.out.g0.setRow Tryz.underlying141 rfl (by kernel_rfl)) rfl ?_
      rw [← HP.out]
      obtain ⟨e1, e2, e3, e4⟩ := HK.out.done (by have := H.out.1.hB; omega) hRl #[.int .i64 f.fn, .int .i64 f.at_, .int .i64 f.fto, .int .i64 f.gen, .int .i64 f.self.1, .int .i64 f.self.2, .slice RA f.regs.length rc, .slice TA i tc]
      rw [List.take_of_length_le (by have := HW3.out.2.2.2.1; omega)] at e4
      have ek : k + (frameW bxT f).length = kk + 1 + 2 * i := by
        have h1 := HW3.out.2.2.1
        have h2 := HW3.out.2.2.2.1
        have h3 := triesW_length f.tries
        unfold frameW
        simp only [List.length_append, List.length_cons, List.length_nil]
        omega
      unfold FrP
      rw [ek, HW3.out.2.2.2.1]
      exact ⟨RA, rc, TA, tc, rfl, e1, e2, e3, e4⟩
end Top
end Go.Proofs.YtdlcooplllimeaaGreatDoor

/- words: a reader of words: a cell. -/
namespace Go.Proofs.YtdlcooplllimeaaGreatDoor
open Go.RowKit

attribute [local go_sem ↓] Go.wp_at_zero Go.wp_at_succ

namespace Top
theorem infoFrT : (Tryz.prog.info? 141).map (fun i => (i.zero, i.size, i.bytes)) = some (some (.agg #[.int .i64 0, .int .i64 0, .int .i64 0, .int .i64 0, .int .i64 0, .int .i64 0, .slice none 0 0, .slice none 0 0]), 8, 96) := by kernel_rfl
structure CeI (x : Ce) : Prop where
  i : I64 x.kind ∧ I64 x.num
  vals : ∀ v ∈ x.vals, rightV v ∧ Flat.ok v
  frames : ∀ f ∈ x.frames, FrI f
  many : (x.vals.length : Int) ≤ mostV x.kind ∧ x.frames.length ≤ 30
def raw8 (f : Fr) (RA : Option Addr) (rc : Nat) (TA : Option Addr) (tc : Nat) : Raw 8 := ⟨[.int .i64 f.fn, .int .i64 f.at_, .int .i64 f.fto, .int .i64 f.gen, .int .i64 f.self.1, .int .i64 f.self.2, .slice RA f.regs.length rc, .slice TA f.tries.length tc], rfl, by simp [Value.oneCell']⟩
def MX (t : TypeId) : Prop := t ≠ 48 ∧ t ≠ 200
instance (t : TypeId) : Decidable (MX t) := by unfold MX; infer_instance
def FrR (m : World) (base : Nat) (r : Raw 8) (f : Fr) : Prop := ∃ RA rc TA tc, r = raw8 f RA rc TA tc ∧ Own m base 48 RA rc f.regs ∧ Own m base 200 TA tc f.tries
theorem FrR.kept {m m' : World} {base : Nat} {r : Raw 8} {f : Fr} (h : FrR m base r f) (hk : Kept MX m m') : FrR m' base r f := by
  obtain ⟨RA, rc, TA, tc, e, h1, h2⟩ := h
  exact ⟨RA, rc, TA, tc, e, hk.own h1 (by decide), hk.own h2 (by decide)⟩
theorem Tr.kept {R : Nat} {m m' : World} (h : Tr R m m') {cs : Array Value} (hR : Blk m R 110 cs) : Kept MX m m' := fun g cs' t st ht hx => h.block g (Array.getElem?_eq_some_iff.1 hx).1 (fun e => by
  subst e
  unfold Blk at hR
  rw [hR] at hx
  injection hx with hx
  injection hx with _ hx _
  exact ht (by rw [← hx]; decide))
def CeP (x : Ce) (R B : Nat) (A : Option Addr) (n c at_ : Nat) (ws : List U64) (w : World) (e : Ending) (w' : World) : Prop :=
  ∃ VA vc FA fc rows, e = .returned (.agg #[.int .i64 x.kind, .int .i64 x.num, .slice VA x.vals.length vc, .slice FA x.frames.length fc]) ∧ RdS w' R B A n c at_ ws ∧ Tr R w w' ∧ Own w' w.heap.size 48 VA vc x.vals ∧
    Own (α := Raw 8) w' w.heap.size 141 FA fc rows ∧ rows.length = x.frames.length ∧ ∀ (k : Nat) r f, rows[k]? = some r → x.frames[k]? = some f → FrR w' w.heap.size r f
structure CS (w0 : World) (R B : Nat) (A : Option Addr) (n c : Nat) (ws : List U64) (x : Ce) (G0 G i : Nat) (VA : Option Addr) (vc : Nat) (FA : Option Addr) (fc : Nat) (rows : List (Raw 8)) (at_ : Nat) (m : World) : Prop where
  rd : RdS m R B A n c at_ ws
  t : Tr R w0 m
  g0 : Blk m G0 46 #[.int .i64 0, .int .i64 0, .slice none 0 0, .slice none 0 0]
  g : Blk m G 46 #[.int .i64 x.kind, .int .i64 x.num, .slice VA x.vals.length vc, .slice FA i fc]
  vo : Own m w0.heap.size 48 VA vc x.vals
  fo : Own m w0.heap.size 141 FA fc rows
  n : rows.length = i
  fr : ∀ (k : Nat) r f, rows[k]? = some r → x.frames[k]? = some f → FrR m w0.heap.size r f
  lt : w0.heap.size ≤ G0 ∧ G0 < G
section
variable {w0 m m' : World} {R B n c G0 G i vc fc at_ at2 : Nat} {A VA FA : Option Addr} {ws : List U64} {x : Ce} {rows : List (Raw 8)}
theorem CS.call (h : CS w0 R B A n c ws x G0 G i VA vc FA fc rows at_ m) (hr : RdS m' R B A n c at2 ws) (ht : Tr R m m') : CS w0 R B A n c ws x G0 G i VA vc FA fc rows at2 m' :=
  ⟨hr, h.t.trans ht, ht.blk h.rd.r h.g0 (by decide), ht.blk h.rd.r h.g (by decide), ht.own h.rd.r h.vo (by decide), ht.own h.rd.r h.fo (by decide), h.n, fun k r f a b => (h.fr k r f a b).kept (ht.kept h.rd.r), h.lt⟩
theorem CS.fresh (h : CS w0 R B A n c ws x G0 G i VA vc FA fc rows at_ m) (hb : Below m.heap.size m m') : CS w0 R B A n c ws x G0 G i VA vc FA fc rows at_ m' := h.call (h.rd.fresh hb) (Touch.ofBelow hb)
theorem CS.drew (h : CS w0 R B A n c ws x G0 G i VA vc FA fc rows at_ m) : CS w0 R B A n c ws x G0 G i VA vc FA fc rows at_ m.drew :=
  ⟨⟨h.rd.r, h.rd.a, h.rd.n, h.rd.hB⟩, Touch.drew h.t, h.g0, h.g, h.vo, h.fo, h.n, fun k r f a b => (h.fr k r f a b).kept ((Kept.refl m).drew), h.lt⟩
theorem CS.app {FA' : Option Addr} {fc' : Nat} {r : Raw 8} {f : Fr} (h : CS w0 R B A n c ws x G0 G i VA vc FA fc rows at_ m) (ho : Own m' w0.heap.size 141 FA' fc' (rows ++ [r])) (hg : m.grownBy m' (rowOf FA)) (_hR : R < w0.heap.size) (hB : B ≤ w0.heap.size) (hf : x.frames[i]? = some f) (hr : FrR m w0.heap.size r f) :
    Blk m' G 46 #[.int .i64 x.kind, .int .i64 x.num, .slice VA x.vals.length vc, .slice FA i fc] ∧ CS w0 R B A n c ws x G0 G (i + 1) VA vc FA' fc' (rows ++ [r]) at_ (m'.setCell ⟨G, 3, none⟩ (.slice FA' (i + 1) fc')) := by
  have hl := h.lt
  have g1 := h.g.grown hg (own_ne_ty h.fo h.g (by decide))
  have g01 := h.g0.grown hg (own_ne_ty h.fo h.g0 (by decide))
  have r1 := h.rd.r.grown hg (own_ne_ty h.fo h.rd.r (by decide))
  have o1 := h.vo.grown hg (fun g hg' e => own_own_ty h.vo h.fo (by decide) g hg' e)
  have ms := h.t.size
  have hk : Kept MX m (m'.setCell ⟨G, 3, none⟩ (.slice FA' (i + 1) fc')) := ((Kept.refl m).grown h.fo (by decide) hg).setBlk g1 (by decide) 3 _
  refine ⟨g1, ⟨r1.far (blk_ne_tyW r1 g1 (by decide)) _, (h.rd.a.below ((Below.refl B _).grown hg (by omega) (fun g hg' => by have := (h.fo.lt g hg').1; omega))).setCell (p := ⟨G, 3, none⟩) (show B ≤ G by omega) _, h.rd.n, h.rd.hB⟩, tr_set ⟨hg.os.trans h.t.os, hg.tape.trans h.t.tape, hg.output.trans h.t.output, by have := hg.size; omega, fun g hgl hF => (hg.block g (by omega) (fun e => by have := (h.fo.lt g e.symm).1; omega)).trans (h.t.block g hgl hF)⟩ (by omega) 3 _, g01.far (show G0 ≠ G by omega) _, ?_, o1.setCell _ _ (own_ne_ty o1 g1 (by decide)), ho.setCell _ _ (own_ne_ty ho g1 (by decide)), by simp [h.n], snoc_rel h.n (P := fun f r => FrR (m'.setCell ⟨G, 3, none⟩ (.slice FA' (i + 1) fc')) w0.heap.size r f) (fun k r f a b => (h.fr k r f a b).kept hk) hf (hr.kept hk), h.lt⟩
  have := g1.set_ 3 (.slice FA' (i + 1) fc')
  simpa using this
theorem CS.done (h : CS w0 R B A n c ws x G0 G i VA vc FA fc rows at_ m) (hB : B ≤ w0.heap.size) (hR : R < w0.heap.size) (cs : Array Value) :
    RdS (m.setRow G0 cs) R B A n c at_ ws ∧ Tr R w0 (m.setRow G0 cs) ∧ Own (m.setRow G0 cs) w0.heap.size 48 VA vc x.vals ∧ Own (m.setRow G0 cs) w0.heap.size 141 FA fc rows ∧ ∀ (k : Nat) r f, rows[k]? = some r → x.frames[k]? = some f → FrR (m.setRow G0 cs) w0.heap.size r f := by
  have hl := h.lt
  have hk : Kept MX m (m.setRow G0 cs) := fun g cs' t st ht hx => setRow_other m G0 g _ (fun e => by
    subst e
    have hg := h.g0
    unfold Blk at hg
    rw [hg] at hx
    injection hx with hx
    injection hx with _ hx _
    exact ht (by rw [← hx]; decide))
  refine ⟨⟨h.rd.r.setRow_far (show R ≠ G0 by omega), h.rd.a.keep (fun p hp => by
    unfold World.cell?
    rw [setRow_other m G0 p.block _ (fun e => by omega)]), h.rd.n, h.rd.hB⟩, ⟨h.t.os, h.t.tape, h.t.output, by have := h.t.size; simp; exact this, fun g hg hF => (setRow_other m G0 g _ (by omega)).trans (h.t.block g hg hF)⟩, h.vo.setRow (own_ne_ty h.vo h.g0 (by decide)), h.fo.setRow (own_ne_ty h.fo h.g0 (by decide)), fun k r f a b => (h.fr k r f a b).kept hk⟩
end
set_option maxRecDepth 100000 in
theorem most_read (k : Int) (w : World) : Calls Tryz.prog 97 #[.int .i64 k] w fun e w' => e = .returned (.int .i64 (mostV k)) ∧ w' = w := by
  by_cases h : k = 7
  · have d : (k == 7) = true := by rw [h]; rfl
    have e : mostV k = 600 := by unfold mostV; rw [if_pos h]
    rw [e]
    clear h e
    go_enter Tryz.func97, Tryz.ntmps97
    go_wp2_with fail
    go_returns
    exact ⟨rfl, rfl⟩
  · have d : (k == 7) = false := by simpa using h
    have e : mostV k = 100 := by unfold mostV; rw [if_neg h]
    rw [e]
    clear h e
    go_enter Tryz.func97, Tryz.ntmps97
    go_wp2_with fail
    go_returns
    exact ⟨rfl, rfl⟩
set_option maxHeartbeats 3200000 in
set_option maxRecDepth 100000 in
theorem cell_read (R B n c k : Nat) (A : Option Addr) (ws : List U64) (x : Ce) (w : World) (h : RdS w R B A n c k ws) (hx : Sg ws k (cellW bxT x)) (hf : CeI x) (hn : n ≤ 1073741824) :
    Calls Tryz.prog 38 #[.pointer (some ⟨R, 0, none⟩)] w (CeP x R B A n c (k + (cellW bxT x).length) ws w) := by
  obtain ⟨P, hP⟩ : ∃ P, CeP x R B A n c (k + (cellW bxT x).length) ws w = P := ⟨_, rfl⟩
  have HP := Lib.hid hP; rw [hP]; clear hP
  obtain ⟨i0, hi, hz0, hz1, hz2⟩ := info_parts infoFrT
  have hRl := h.r.lt
  have hx5 : Sg ws k ([wd x.kind, wd x.num] ++ (valsW bxT x.vals ++ ([wd x.frames.length] ++ x.frames.flatMap (frameW bxT)))) := by
    have e : cellW bxT x = [wd x.kind, wd x.num] ++ (valsW bxT x.vals ++ ([wd x.frames.length] ++ x.frames.flatMap (frameW bxT))) := by unfold cellW; simp only [List.append_assoc]
    rw [← e]; exact hx
  have x1 := hx5.left
  have x3 : Sg ws (k + 2) (valsW bxT x.vals ++ ([wd x.frames.length] ++ x.frames.flatMap (frameW bxT))) := hx5.right
  have x4 : Sg ws (k + 2 + (valsW bxT x.vals).length) (wd x.frames.length :: x.frames.flatMap (frameW bxT)) := x3.right
  have y1 : ws[k + 1]? = some (wd x.num) := x1.get (i := 1) rfl
  have hvl : x.vals.length ≤ 1000 := by have := hf.many.1; unfold mostV at this; split at this <;> omega
  have H := Lib.hid (And.intro (h) (And.intro (hf) (And.intro (x1.head) (And.intro (y1) (And.intro (x3.left) (x4))))))
  clear h hf x1 y1 x3 x4 hx hx5
  go_enter Tryz.func38, Tryz.ntmps38
  go_upto_region 1 with fail
  refine wp_world (fun W => Blk W w.heap.size 46 #[.int .i64 0, .int .i64 0, .slice none 0 0, .slice none 0 0] ∧ Below w.heap.size w W ∧ w.heap.size + 1 ≤ W.heap.size) ⟨Blk.new _ _ _, (Below.refl _ _).alloc (Nat.le_refl _) _, by simp⟩ ?_
  rintro W ⟨hG, hbW, hsW⟩
  have r0 := H.out.1.fresh hbW
  have hc := number_any R B n c k A ws x.kind W r0 H.out.2.2.1 H.out.2.1.i.1 hn
  have HW := Lib.hid (And.intro (hc) (And.intro (hG) (And.intro ((Touch.ofBelow (F := fun g => g = R) hbW)) (r0))))
  clear hc hG hbW r0
  go_wp2_with fail
  refine HW.out.1.mono ?_
  rintro e w1 ⟨rfl, r1, t1⟩
  have hc := number_any R B n c (k + 1) A ws x.num w1 r1 H.out.2.2.2.1 H.out.2.1.i.2 hn
  have H1 := Lib.hid (And.intro (hc) (And.intro (r1) (t1)))
  clear hc r1 t1
  go_wp2_with fail
  refine H1.out.1.mono ?_
  rintro e w4 ⟨rfl, r4, t4⟩
  have t4' : Tr R W w4 := H1.out.2.2.trans t4
  have g4 := t4'.blk HW.out.2.2.2.r HW.out.2.1 (by decide)
  have hs4 := t4'.size
  have H4 := Lib.hid (And.intro (r4) (And.intro (((show Tr R w W from HW.out.2.2.1).trans t4')) (g4)))
  clear r4 t4 t4' g4
  go_upto_region 2 with fail
  refine wp_world (fun V => RdS V R B A n c (k + 2) ws ∧ Tr R w V ∧ Blk V w.heap.size 46 #[.int .i64 0, .int .i64 0, .slice none 0 0, .slice none 0 0] ∧ Blk V w4.heap.size 46 #[.int .i64 x.kind, .int .i64 x.num, .slice none 0 0, .slice none 0 0] ∧ w4.heap.size + 1 ≤ V.heap.size) ⟨H4.out.1.fresh ((Below.refl _ _).alloc (Nat.le_refl _) _), H4.out.2.1.alloc _, H4.out.2.2.alloc _, Blk.new _ _ _, by simp⟩ ?_
  rintro V ⟨r5, t5, g5, f5, s5⟩
  obtain ⟨G, hG⟩ : ∃ G, w4.heap.size = G := ⟨_, rfl⟩
  rw [hG] at f5 s5 ⊢
  have hGw : w.heap.size < G := by omega
  have hGR : B ≤ G := by have := H.out.1.hB; omega
  have n0 : w.heap.size ≠ G := by omega
  have c0 := f5.cell 0 (v := .int .i64 x.kind) rfl
  have hc := values_any R B n c (k + 2) A ws x.vals (mostV x.kind) V r5 H.out.2.2.2.2.1 H.out.2.1.vals H.out.2.1.many.1 hvl hn
  have hmo := most_read x.kind V
  have HV := Lib.hid (And.intro (hc) (And.intro (r5) (And.intro (t5) (And.intro (g5) (And.intro (f5) (hmo))))))
  clear hc r5 t5 g5 f5 hG hmo
  go_wp2_with fail
  refine HV.out.2.2.2.2.2.mono ?_
  rintro e w5 ⟨rfl, rfl⟩
  go_wp2_with fail
  refine HV.out.1.mono ?_
  rintro e w6 ⟨VA, vc, rfl, r9, t9, o9⟩
  have g9 := t9.blk HV.out.2.1.r HV.out.2.2.2.1 (by decide)
  have f9 := t9.blk HV.out.2.1.r HV.out.2.2.2.2.1 (by decide)
  have t9' : Tr R w w6 := HV.out.2.2.1.trans t9
  have hs9 := t9.size
  have nR := blk_ne_tyW r9.r f9 (by decide)
  have c2 := f9.cell 2 (v := .slice none 0 0) rfl
  have z2 := f9.frozen 2
  have fa : Blk (w6.setCell ⟨G, 2, none⟩ (.slice VA x.vals.length vc)) G 46 #[.int .i64 x.kind, .int .i64 x.num, .slice VA x.vals.length vc, .slice none 0 0] := by
    have := f9.set_ 2 (.slice VA x.vals.length vc)
    simpa using this
  have hCS : CS w R B A n c ws x w.heap.size G 0 VA vc none 0 [] (k + 2 + (valsW bxT x.vals).length) (w6.setCell ⟨G, 2, none⟩ (.slice VA x.vals.length vc)) :=
    ⟨⟨r9.r.far (p := ⟨G, 2, none⟩) nR _, r9.a.setCell (p := ⟨G, 2, none⟩) hGR _, r9.n, r9.hB⟩, tr_set t9' (by omega) 2 _, g9.far (p := ⟨G, 2, none⟩) n0 _, fa, (o9.base_le (by omega)).setCell _ _ (own_ne_ty o9 f9 (by decide)), Own.nil_, rfl, (fun k r f a _ => by simp at a), ⟨Nat.le_refl _, hGw⟩⟩
  have H9 := Lib.hid (hCS)
  clear hCS fa r9 t9 t9' o9 g9 f9 nR c0
  go_upto_region 3 with fail
  refine wp_world (fun V => CS w R B A n c ws x w.heap.size G 0 VA vc none 0 [] (k + 2 + (valsW bxT x.vals).length) V ∧ w6.heap.size ≤ V.heap.size) ⟨H9.out, by simp⟩ ?_
  rintro V3 ⟨hV3, s3⟩
  clear c2 z2
  obtain ⟨kk, hkk⟩ : ∃ kk, k + 2 + (valsW bxT x.vals).length = kk := ⟨_, rfl⟩
  rw [hkk] at hV3
  obtain ⟨fn, hfn⟩ : ∃ fn, x.frames.length = fn := ⟨_, rfl⟩
  have x4 : Sg ws kk (wd x.frames.length :: x.frames.flatMap (frameW bxT)) := by have := H.out.2.2.2.2.2; rw [hkk] at this; exact this
  have hc := many_any R B n c kk A ws x.frames.length 30 V3 hV3.rd x4.head (by have := H.out.2.1.many.2; omega) (by have := H.out.2.1.many.2; omega) hn
  have hfl : fn ≤ 30 := by have := H.out.2.1.many.2; omega
  rw [hfn] at hc
  have HW3 := Lib.hid (And.intro (hc) (And.intro (hV3) (And.intro (hkk) (And.intro (hfn) ((Sg.tail x4))))))
  clear hc hV3 hkk hfn x4
  go_wp2_with fail
  refine HW3.out.1.mono ?_
  rintro e w7 ⟨rfl, r7, t7⟩
  have hF7 := HW3.out.2.1.call r7 t7
  have hs7 := t7.size
  have H7 := Lib.hid (hF7)
  clear hF7 r7 t7
  go_wp2_with fail
  go_loopg [4] (fn) (fun gk nv wr => ∃ (i j : Nat) (FA : Option Addr) (fc : Nat) (rows : List (Raw 8)), i ≤ fn ∧ gk = fn - i ∧ j ≤ fn ∧ nv = .int .i64 j ∧ Hid (i + j = fn ∧ CS w R B A n c ws x w.heap.size G i VA vc FA fc rows (kk + 1 + ((x.frames.take i).flatMap (frameW bxT)).length) wr) ∧ w7.heap.size ≤ wr.heap.size)
  case atStart => exact ⟨0, fn, none, 0, [], Nat.zero_le _, by omega, Nat.le_refl _, rfl, ⟨by omega, by simpa using H7.out⟩, Nat.le_refl _⟩
  case round =>
    obtain ⟨i, j, FA, fc, rows, hil, rfl, hjl, rfl, hkeep, hsz⟩ := hrel
    have q2 := hkeep.out.2.rd.r.cell 2 (v := .bool false) rfl
    by_cases hj : 0 < j
    · obtain ⟨j', rfl⟩ : ∃ j', j = j' + 1 := ⟨j - 1, by omega⟩
      have hij := hkeep.out.1
      have hit : i < x.frames.length := by have := HW3.out.2.2.2.1; omega
      obtain ⟨f, hfv⟩ : ∃ f, x.frames[i]? = some f := ⟨_, List.getElem?_eq_getElem hit⟩
      have hfi := H.out.2.1.frames f (List.mem_of_getElem? hfv)
      have hF0 := hkeep.out.2.drew
      have hsg : Sg ws (kk + 1 + ((x.frames.take i).flatMap (frameW bxT)).length) (frameW bxT f) := by
        have h1 := HW3.out.2.2.2.2
        have e : x.frames.flatMap (frameW bxT) = (x.frames.take i).flatMap (frameW bxT) ++ (frameW bxT f ++ (x.frames.drop (i + 1)).flatMap (frameW bxT)) := by
          have h2 := (List.take_append_drop i x.frames).symm
          have h3 : x.frames.drop i = f :: x.frames.drop (i + 1) := by rw [List.drop_eq_getElem_cons hit]; congr 1; rw [List.getElem?_eq_getElem hit] at hfv; injection hfv
          conv => lhs; rw [h2]
          rw [List.flatMap_append, h3, List.flatMap_cons]
        rw [e] at h1
        exact h1.right.left
      have hc := frame_read R B n c (kk + 1 + ((x.frames.take i).flatMap (frameW bxT)).length) A ws f wr.drew hF0.rd hsg hfi hn
      have htk : kk + 1 + ((x.frames.take (i + 1)).flatMap (frameW bxT)).length = kk + 1 + (((x.frames.take i).flatMap (frameW bxT)).length + (frameW bxT f).length) := by
        rw [flatMap_snoc (frameW bxT) x.frames i f hfv, List.length_append]
      have d0 : decide ((0 : Int) < (j' : Int) + 1) = true := decide_eq_true (by omega)
      have d1 : (0 : Int) < (j' : Int) + 1 := by omega
      have u3a := hF0.g.cell 3 (v := .slice FA i fc) rfl
      have u3a' : wr.cell? ⟨G, 3, none⟩ = some (.slice FA i fc) := u3a
      have hRw : R < w.heap.size := hRl
      have hBw : B ≤ w.heap.size := by have := H.out.1.hB; omega
      have HX := Lib.hid (And.intro (hc) (And.intro (hF0) (And.intro (hij) (And.intro (hfv) (htk)))))
      clear hc hF0 hij hfv htk hfi hsg hkeep hit
      go_upto_region 6 with fail
      clear q2
      refine wp_region_T (S := (fun w' => w'.cell? ⟨G, 3, none⟩ = some (.slice FA i fc))) (Z := (fun _ => True)) 7 (by kernel_rfl) ?_ (fun hHeld0 => ?_)
      · first | trivial | ((try dsimp only); (first | exact u3e | exact u3c | exact u3b | exact u3a))
      refine ttk 0 rfl ?_
      try go_frame
      refine ttk 1 rfl ?_
      try go_frame
      refine ttk 2 rfl ?_
      try go_frame
      refine callT 3 (by kernel_rfl) (by decide) rfl (fun K hK => ?_)
      go_simp
      go_at_call 98; refine HX.out.1.mono ?_; rintro e w2 ⟨RA, rc, TA, tc, rfl, r2, t2, oR, oT⟩; have hsz2 : wr.heap.size ≤ w2.heap.size := t2.size; have F2 := HX.out.2.1.call r2 t2; have u3b := F2.g.cell 3 (v := .slice FA i fc) rfl; have oR2 := oR.base_le (base' := w.heap.size) HX.out.2.1.t.size; have oT2 := oT.base_le (base' := w.heap.size) HX.out.2.1.t.size; have F3 := F2.fresh ((Below.refl _ _).alloc (Nat.le_refl _) (.cells #[.int .i64 f.fn, .int .i64 f.at_, .int .i64 f.fto, .int .i64 f.gen, .int .i64 f.self.1, .int .i64 f.self.2, .slice RA f.regs.length rc, .slice TA f.tries.length tc] 141)); have u3c := F3.g.cell 3 (v := .slice FA i fc) rfl; have hs2 := F2.t.size
      try (go_wp2_with fail)
      refine hK.out _ _ ?_ (fun hHeld1 => ?_)
      · first | trivial | ((try dsimp only); (first | exact u3e | exact u3c | exact u3b | exact u3a))
      clear hK K hHeld0
      try go_frame
      refine callT 4 (by kernel_rfl) (by decide) rfl (fun K hK => ?_)
      go_simp
      refine hK.out _ _ ?_ (fun hHeld2 => ?_)
      · first | trivial | ((try dsimp only); (first | exact u3e | exact u3c | exact u3b | exact u3a))
      clear hK K hHeld1
      try go_frame
      refine callT 5 (by kernel_rfl) (by decide) rfl (fun K hK => ?_)
      refine step_app (α := Raw 8) (n := i) (m := 1) (nm := i + 1) (r := [raw8 f RA rc TA tc]) (by rfl) (.tmp 30) (.tmp 33) _ (by rfl) w.heap.size 141 i0 _ 96 Tryz.underlying44 hi hz0 hz1 hz2 rfl (by decide) raw_one (by rfl) HX.out.2.1.n F3.fo (by rfl) (At.built w2 _ _ [raw8 f RA rc TA tc] rfl (fun _ _ => trivial)) rfl rfl (by omega) (by simp only [maxLen]; omega) F3.t.size ?_; intro FA4 fc4 w4 hown4 hgr4 hat4; have F4 := F3.app hown4 hgr4 hRw hBw HX.out.2.2.2.1 ⟨RA, rc, TA, tc, rfl, oR2.alloc _, oT2.alloc _⟩; have u3e := F4.1.cell 3 (v := .slice FA i fc) rfl; have z3e := F4.1.frozen 3; have hs4 := hgr4.size; rw [World.size_alloc] at hs4
      refine hK.out _ _ ?_ (fun hHeld3 => ?_)
      · first | trivial | ((try dsimp only); (first | exact u3e | exact u3c | exact u3b | exact u3a))
      clear hK K hHeld2
      try go_frame
      refine ttk 6 rfl ?_
      try go_frame
      refine lastT (by kernel_rfl) rfl (fun K hK => ?_)
      go_simp
      refine hK.out _ _ ?_ (fun hHeld4 => ?_)
      · trivial
      clear hK K hHeld3
      try go_frame
      refine wpAnyH_done (by kernel_rfl) ?_ _
      have HF5 := Lib.hid F4.2; clear F4 F3 F2 u3b u3c u3e z3e hown4 hgr4 hat4 r2 t2 oR oT oR2 oT2
      go_wp2_with fail
      go_roundg (fn - (i + 1))
      case measure => have := HX.out.2.2.1; omega
      case rel => exact ⟨i + 1, j', FA4, fc4, _, by have := HX.out.2.2.1; omega, rfl, by omega, by go_num, ⟨by have := HX.out.2.2.1; omega, by rw [HX.out.2.2.2.2, ← Nat.add_assoc]; exact HF5.out⟩, by simp; omega⟩
    · obtain rfl : j = 0 := by omega
      have hin : i = fn := by have := hkeep.out.1; omega
      subst hin
      have hF := hkeep.out.2
      have HK := Lib.hid (hF)
      clear hF hkeep
      go_wp2_with (first | (refine wpList_ld rfl 46 (.tmp 3) rfl G rfl HK.out.g Tryz.underlying46 rfl (by kernel_rfl) ?_) | (refine wpList_st rfl 46 (.tmp 2) (.tmp 36) rfl w.heap.size rfl rfl HK.out.g0 (by kernel_rfl) rfl rfl ?_))
      refine bodyPost_ret (results_cell1T rfl _ _ w.heap.size _ _ _ rfl HK.out.g0.setRow Tryz.underlying46 rfl (by kernel_rfl)) rfl ?_
      rw [← HP.out]
      obtain ⟨e1, e2, e3, e4, e5⟩ := HK.out.done (by have := H.out.1.hB; omega) hRl #[.int .i64 x.kind, .int .i64 x.num, .slice VA x.vals.length vc, .slice FA i fc]
      rw [List.take_of_length_le (by have := HW3.out.2.2.2.1; omega)] at e1
      have ek : k + (cellW bxT x).length = kk + 1 + (x.frames.flatMap (frameW bxT)).length := by
        have h1 := HW3.out.2.2.1
        unfold cellW
        simp only [List.length_append, List.length_cons, List.length_nil]
        omega
      unfold CeP
      rw [ek, HW3.out.2.2.2.1]
      exact ⟨VA, vc, FA, fc, rows, rfl, e1, e2, e3, e4, HK.out.n, e5⟩
end Top
end Go.Proofs.YtdlcooplllimeaaGreatDoor
