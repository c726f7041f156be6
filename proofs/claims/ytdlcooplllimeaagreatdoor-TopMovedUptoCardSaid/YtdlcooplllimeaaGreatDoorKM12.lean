/- KM: KmB. -/
import Derived.Test.YtdlcooplllimeaaGreatDoorKM2
import Derived.Test.YtdlcooplllimeaaGreatDoorKM11
/- TopMoved's own words: a state's cells in words. -/
namespace Go.Proofs.YtdlcooplllimeaaGreatDoor
open Go.RowKit

attribute [local go_sem ↓] Go.wp_at_zero Go.wp_at_succ

namespace Top
open Sto (st)
theorem boxL_rangeT (k n : Int) : 0 ≤ (boxL k n).1 ∧ (boxL k n).1 ≤ 18446744073709551615 := by
  unfold boxL tagL
  split
  · simp
  split
  · split
    · simp
    · simp only; omega
  · split
    · simp
    · simp only
      split <;> omega
theorem wordOf_flat (pl : List Nat) (v : Int × Int) : Flat.ok (wordOf pl v) := by
  unfold wordOf
  split
  · exact boxL_rangeT _ _
  · exact boxL_rangeT _ _
theorem infoU64T : (Tryz.prog.info? 73).map (fun i => (i.zero, i.size, i.bytes)) = some (some (.int .u64 0), 1, 8) := by kernel_rfl
theorem u64_oneT : ∀ x : U64, ∀ u ∈ Flat.cells x, u.oneCell' = true := by
  intro x u hu; simp [Flat.cells] at hu; subst hu; rfl
theorem obsT_get {s : Stt} {k : Nat} {x : Ce} (h : s.cells[k]? = some x) : (obsT s)[k]? = some (objOf (plcs s) x) := by unfold obsT; rw [List.getElem?_map, h]; rfl
theorem obsT_len (s : Stt) : (obsT s).length = s.cells.length := by unfold obsT; rw [List.length_map]
theorem plcs_len (s : Stt) : (plcs s).length = s.cells.length := by
  rw [plcs_starts]
  have : ∀ (l : List (List U64)) a, (Sto.starts a l).length = l.length := by
    intro l
    induction l with
    | nil => intro a; rfl
    | cons o l ih => intro a; rw [Sto.starts, List.length_cons, ih, List.length_cons]
  rw [this, obsT_len]
theorem blk_ne_ty {w : World} {a b : Nat} {t t' : TypeId} {cs cs' : Array Value} (h : Blk w a t cs) (h' : Blk w b t' cs') (hne : t ≠ t') : a ≠ b := by
  intro e
  subst e
  unfold Blk at h h'
  rw [h] at h'
  injection h' with h'
  injection h' with _ h' _
  exact hne h'
structure HSt (s : Stt) (w0 : World) (S0 R0 P5 H : Nat) (sv : Array Value) (PA : Option Addr) (pc : Nat) (WA : Option Addr) (wc : Nat) (ws : List U64) (GA : Option Addr) (gc : Nat) (gs : List U64) (m : World) : Prop where
  st : Blk m S0 32 sv
  p : Blk m P5 34 #[.slice PA s.cells.length pc]
  po : Own m w0.heap.size 3 PA pc (plI (plcs s))
  h : Blk m H 56 #[.slice WA ws.length wc, .slice GA gs.length gc]
  r : Blk m R0 56 #[.slice none 0 0, .slice none 0 0]
  wo : Own m w0.heap.size 73 WA wc ws
  go_ : Own m w0.heap.size 73 GA gc gs
  ap : ∀ g, rowOf WA = some g → rowOf GA ≠ some g
  b : Below w0.heap.size w0 m
  hH : w0.heap.size ≤ H
  hne : R0 ≠ H
section
variable {s : Stt} {w0 m m' : World} {S0 R0 P5 H : Nat} {sv : Array Value} {PA WA WA' GA GA' : Option Addr} {pc wc wc' gc gc' n : Nat} {ws gs r : List U64}
theorem HSt.fresh (h : HSt s w0 S0 R0 P5 H sv PA pc WA wc ws GA gc gs m) (hb : Below m.heap.size m m') : HSt s w0 S0 R0 P5 H sv PA pc WA wc ws GA gc gs m' :=
  ⟨h.st.fresh hb, h.p.fresh hb, h.po.fresh hb, h.h.fresh hb, h.r.fresh hb, h.wo.fresh hb, h.go_.fresh hb, h.ap, h.b.trans (hb.mono h.b.size), h.hH, h.hne⟩
theorem HSt.appW (h : HSt s w0 S0 R0 P5 H sv PA pc WA wc ws GA gc gs m) (ho : Own m' w0.heap.size 73 WA' wc' (ws ++ r)) (hg : m.grownBy m' (rowOf WA)) (hat : rowOf WA' = rowOf WA ∨ rowOf WA' = some m.heap.size) (hn : n = (ws ++ r).length) :
    HSt s w0 S0 R0 P5 H sv PA pc WA' wc' (ws ++ r) GA gc gs (m'.setCell ⟨H, 0, none⟩ (.slice WA' n wc')) := by
  have hH := h.h.grown hg (own_ne_ty h.wo h.h (by decide))
  have hp := h.p.grown hg (own_ne_ty h.wo h.p (by decide))
  have hs := h.st.grown hg (own_ne_ty h.wo h.st (by decide))
  have hr := h.r.grown hg (own_ne_ty h.wo h.r (by decide))
  have hpo := h.po.grown hg (fun g hg' e => own_own_ty h.po h.wo (by decide) g hg' e)
  have hgo := h.go_.grown hg (fun g hg' e => h.ap g e hg')
  refine ⟨hs.far (blk_ne_ty hs hH (by decide)) _, hp.far (blk_ne_ty hp hH (by decide)) _, hpo.setCell _ _ (own_ne_ty hpo hH (by decide)), ?_, hr.far h.hne _, ho.setCell _ _ (own_ne_ty ho hH (by decide)), hgo.setCell _ _ (own_ne_ty hgo hH (by decide)), fun g hg' e => ?_, (h.b.grown hg h.b.size (fun g hg' => (h.wo.lt g hg').1)).setCell (p := ⟨H, 0, none⟩) h.hH _, h.hH, h.hne⟩
  · have := hH.set_ 0 (.slice WA' n wc')
    rw [hn] at this ⊢
    simpa using this
  · rcases hat with h1 | h1
    · exact h.ap g (by rw [← h1]; exact hg') e
    · have h2 := (h.go_.lt g e).2
      rw [h1] at hg'; injection hg' with hg'; omega
theorem HSt.appG (h : HSt s w0 S0 R0 P5 H sv PA pc WA wc ws GA gc gs m) (ho : Own m' w0.heap.size 73 GA' gc' (gs ++ r)) (hg : m.grownBy m' (rowOf GA)) (hat : rowOf GA' = rowOf GA ∨ rowOf GA' = some m.heap.size) (hn : n = (gs ++ r).length) :
    HSt s w0 S0 R0 P5 H sv PA pc WA wc ws GA' gc' (gs ++ r) (m'.setCell ⟨H, 1, none⟩ (.slice GA' n gc')) := by
  have hH := h.h.grown hg (own_ne_ty h.go_ h.h (by decide))
  have hp := h.p.grown hg (own_ne_ty h.go_ h.p (by decide))
  have hs := h.st.grown hg (own_ne_ty h.go_ h.st (by decide))
  have hr := h.r.grown hg (own_ne_ty h.go_ h.r (by decide))
  have hpo := h.po.grown hg (fun g hg' e => own_own_ty h.po h.go_ (by decide) g hg' e)
  have hwo := h.wo.grown hg (fun g hg' e => h.ap g hg' e)
  refine ⟨hs.far (blk_ne_ty hs hH (by decide)) _, hp.far (blk_ne_ty hp hH (by decide)) _, hpo.setCell _ _ (own_ne_ty hpo hH (by decide)), ?_, hr.far h.hne _, hwo.setCell _ _ (own_ne_ty hwo hH (by decide)), ho.setCell _ _ (own_ne_ty ho hH (by decide)), fun g hg' e => ?_, (h.b.grown hg h.b.size (fun g hg' => (h.go_.lt g hg').1)).setCell (p := ⟨H, 1, none⟩) h.hH _, h.hH, h.hne⟩
  · have := hH.set_ 1 (.slice GA' n gc')
    rw [hn] at this ⊢
    simpa using this
  · rcases hat with h1 | h1
    · exact h.ap g hg' (by rw [← h1]; exact e)
    · have h2 := (h.wo.lt g hg').2
      rw [h1] at e; injection e with e; omega
end
def HeapPost (s : Stt) (w : World) (e : Ending) (w' : World) : Prop := Below w.heap.size w w' ∧ ((∃ A n c A' n' c' P m d, e = .returned (.tuple #[.agg #[.slice A n c, .slice A' n' c'], .slice P m d, .bool false])) ∨
  ((∀ c ∈ s.cells, ∀ v ∈ cHas c, okV s.cells.length v) ∧ (obsT s).flatten.length ≤ 2000 ∧ (roots s).length ≤ 100 ∧ ∃ WA wc GA gc PA pc, e = .returned (.tuple #[.agg #[.slice WA (obsT s).flatten.length wc, .slice GA (roots s).length gc], .slice PA s.cells.length pc, .bool true]) ∧ At w' w'.heap.size WA (obsT s).flatten ∧ At w' w'.heap.size GA (rootsT s) ∧ At w' w'.heap.size PA (plI (plcs s)) ∧ (obsT s).flatten.length ≤ wc))
set_option maxHeartbeats 6400000 in
set_option maxRecDepth 100000 in
theorem rHeap_any (B cc sc tc hc ec dc : Nat) (CA SA TA HA EA DA : Option Addr) (s : Stt) (w : World) (h : StP w B s CA SA TA HA EA DA cc sc tc hc ec dc) (hB : B ≤ w.heap.size)
    (hl1 : ∀ t ∈ s.threads, (frVals t.frames).length + 1 ≤ 1073741824) (hl2 : (roots s).length ≤ 1073741824) (hl3 : s.threads.length ≤ 1073741824 ∧ s.ends.length ≤ 1073741824) (hl4 : s.cells.length ≤ 1073741824) (hl5 : ∀ c ∈ s.cells, c.vals.length + (frVals c.frames).length ≤ 1073741824) (hl6 : (obsT s).flatten.length ≤ 1073741824) :
    Calls Tryz.prog 11 #[.agg #[.slice CA s.cells.length cc, .slice SA s.shapes.length sc, .slice TA s.texts.length tc, .slice HA s.threads.length hc, .slice EA s.ends.length ec, .slice DA s.said.length dc, .int .i64 s.asked, .int .i64 s.steps]] w (HeapPost s w) := by
  obtain ⟨P, hP⟩ : ∃ P, HeapPost s w = P := ⟨_, rfl⟩
  have HP := Lib.hid hP; rw [hP]; clear hP
  obtain ⟨i0, hi, hz0, hz1, hz2⟩ := info_parts infoU64T
  obtain ⟨j0, hj, hy0, hy1, hy2⟩ := info_parts infoInt
  have hstl : ∀ k, st (obsT s) k ≤ 1073741824 := fun k => Nat.le_trans (Sto.st_le k) hl6
  have H := Lib.hid (And.intro (h) (And.intro (hl1) (And.intro (hl2) (And.intro (hl3) (And.intro (hl5) (And.intro (hl6) (hstl)))))))
  clear h hl1 hl2 hl3 hl5 hl6 hstl
  go_enter Tryz.func11, Tryz.ntmps11
  go_upto_region 3 with fail
  refine wp_world (fun W => Blk W w.heap.size 32 #[.slice CA s.cells.length cc, .slice SA s.shapes.length sc, .slice TA s.texts.length tc, .slice HA s.threads.length hc, .slice EA s.ends.length ec, .slice DA s.said.length dc, .int .i64 s.asked, .int .i64 s.steps] ∧ Blk W (w.heap.size + 1) 56 #[.slice none 0 0, .slice none 0 0] ∧ Blk W (w.heap.size + 2) 34 #[.slice none 0 0] ∧ Below w.heap.size w W ∧ w.heap.size + 3 ≤ W.heap.size) ⟨?_, ?_, ?_, ?_, ?_⟩ ?_
  · exact (((Blk.new w _ _).alloc _).alloc _)
  · exact (Blk.at_ (w.alloc (.cells #[.slice CA s.cells.length cc, .slice SA s.shapes.length sc, .slice TA s.texts.length tc, .slice HA s.threads.length hc, .slice EA s.ends.length ec, .slice DA s.said.length dc, .int .i64 s.asked, .int .i64 s.steps] 32)) 56 #[.slice none 0 0, .slice none 0 0] (g := w.heap.size + 1) (by simp)).alloc _
  · exact Blk.at_ ((w.alloc (.cells #[.slice CA s.cells.length cc, .slice SA s.shapes.length sc, .slice TA s.texts.length tc, .slice HA s.threads.length hc, .slice EA s.ends.length ec, .slice DA s.said.length dc, .int .i64 s.asked, .int .i64 s.steps] 32)).alloc (.cells #[.slice none 0 0, .slice none 0 0] 56)) 34 #[.slice none 0 0] (g := w.heap.size + 2) (by simp)
  · exact (((Below.refl _ _).alloc (Nat.le_refl _) _).alloc (by simp) _).alloc (by simp; omega) _
  · simp
  rintro W ⟨hSt, hRs, hPs, hbW, hsW⟩
  have s0 := hSt.cell 0 (v := .slice CA s.cells.length cc) rfl
  have HW := Lib.hid (And.intro (hSt) (And.intro (hRs) (And.intro (hPs) (hbW))))
  clear hSt hRs hPs hbW
  go_wp2_with fail
  clear s0
  go_loopg [6, 25] (s.cells.length) (fun gk av iv wr => ∃ (k a : Nat) (PA : Option Addr) (pc : Nat), k ≤ s.cells.length ∧ gk = s.cells.length - k ∧ iv = .int .i64 k ∧ av = .int .i64 a ∧ a ≤ 1073741824 ∧ Hid (a = st (obsT s) k ∧ Blk wr w.heap.size 32 #[.slice CA s.cells.length cc, .slice SA s.shapes.length sc, .slice TA s.texts.length tc, .slice HA s.threads.length hc, .slice EA s.ends.length ec, .slice DA s.said.length dc, .int .i64 s.asked, .int .i64 s.steps] ∧ Blk wr (w.heap.size + 1) 56 #[.slice none 0 0, .slice none 0 0] ∧ Blk wr (w.heap.size + 2) 34 #[.slice PA k pc] ∧ Own wr w.heap.size 3 PA pc (plI ((plcs s).take k))) ∧ Below w.heap.size w wr ∧ w.heap.size + 3 ≤ wr.heap.size)
  case atStart => exact ⟨0, 0, none, 0, Nat.zero_le _, rfl, rfl, rfl, Nat.zero_le _, ⟨by simp [st], HW.out.1, HW.out.2.1, HW.out.2.2.1, by simpa [plI] using Own.nil_⟩, HW.out.2.2.2, hsW⟩
  case round =>
    obtain ⟨k, a, PA, pc, hk, rfl, rfl, rfl, ha, hkeep, hbl, hsz⟩ := hrel
    by_cases hlt : k < s.cells.length
    · obtain ⟨b, o, x, VA, vc, FA, fc, rfl, hb, hx, c0, c1, c2, c3, aV, lV, aF, lF, j1, j2⟩ := (H.out.1.a1.below (hbl.mono hB)).ce_ hlt
      have hk0 : (0 : Int) ≤ (k : Int) := by omega
      have hk1 : (k : Int) < (s.cells.length : Int) := by omega
      have hxl := H.out.2.2.2.2.1 x (List.mem_of_getElem? hx)
      have hnx := Sto.st_succ (obsT_get hx)
      rw [objOf_length] at hnx
      have hst1 := H.out.2.2.2.2.2.2 (k + 1)
      have hae := hkeep.out.1
      have hpk : (plcs s)[k]? = some a := by rw [hae]; exact plcs_get (by omega)
      have hptk : plI ((plcs s).take (k + 1)) = plI ((plcs s).take k) ++ [(a : Int)] := by unfold plI; rw [List.take_add_one, hpk]; simp
      have hplk : (plI ((plcs s).take k)).length = k := by rw [plI_len, List.length_take, plcs_len]; omega
      go_upto_region 6 with fail
      refine wp_world (fun U => Blk U wr.heap.size 46 #[.int .i64 x.kind, .int .i64 x.num, .slice VA x.vals.length vc, .slice FA x.frames.length fc] ∧ Below wr.heap.size wr U ∧ wr.heap.size + 1 ≤ U.heap.size) ⟨Blk.new _ _ _, (Below.refl _ _).alloc (Nat.le_refl _) _, by simp⟩ ?_
      rintro U ⟨hC, hbU, hsU⟩
      obtain ⟨q1, q2, q3, q4, q5⟩ := hkeep.out
      have q2U := q2.fresh hbU
      have q3U := q3.fresh hbU
      have q4U := q4.fresh hbU
      have q5U := (q5.fresh hbU).alloc (.cells #[.int .i64 (a : Int)] 3)
      have hbwU : Below w.heap.size w U := hbl.trans (hbU.mono (by omega))
      have p0 := q4U.cell 0 (v := .slice PA k pc) rfl
      have hat := At.built U #[.int .i64 (a : Int)] 3 [(a : Int)] rfl (by intro z hz; simp at hz; subst hz; exact (by unfold I64; omega : I64 (a : Int)))
      have aV0 : At w B VA x.vals := aV.keep (fun p hp => (Below.cells (hbl.mono hB) p hp).symm)
      have aF0 : At w B FA x.frames := aF.keep (fun p hp => (Below.cells (hbl.mono hB) p hp).symm)
      have HU := Lib.hid (And.intro (hC) (And.intro (q2U) (And.intro (q3U) (And.intro (q4U) (And.intro (q5U) (And.intro (hbwU) (And.intro (hat) (And.intro (hae) (And.intro (hnx) (And.intro (hptk) (And.intro (hplk) ((And.intro aV0 aF0)))))))))))))
      clear hC q1 q2 q3 q4 q5 q2U q3U q4U q5U hbwU hat hae hnx hptk hplk hkeep hbU c0 c1 c2 c3 aV aF aV0 aF0 j1 j2 hx hpk
      go_wp2_with (at_builtin; go_must (refine wpList_app (α := Int) (n := k) (m := 1) (B := U.heap.size + 1) (r := [(a : Int)]) rfl (.tmp 29) (.tmp 31) _ rfl w.heap.size 3 j0 _ 8 Tryz.underlying34 hj hy0 hy1 hy2 rfl (by decide) int_one (by rfl) HU.out.2.2.2.2.2.2.2.2.2.2.1 HU.out.2.2.2.2.1 (by rfl) HU.out.2.2.2.2.2.2.1 rfl (by omega) (by simp only [maxLen]; omega) (by simp; omega) ?_))
      intro PA2 pc2 w2 hown2 hgr2 hat2
      have u4a := HU.out.2.2.2.1.alloc (.cells #[.int .i64 (a : Int)] 3)
      have g1 := (HU.out.1.alloc (.cells #[.int .i64 (a : Int)] 3)).grown hgr2 (own_ne_ty HU.out.2.2.2.2.1 (HU.out.1.alloc _) (by decide))
      have g2 := (HU.out.2.1.alloc (.cells #[.int .i64 (a : Int)] 3)).grown hgr2 (own_ne_ty HU.out.2.2.2.2.1 (HU.out.2.1.alloc _) (by decide))
      have g3 := (HU.out.2.2.1.alloc (.cells #[.int .i64 (a : Int)] 3)).grown hgr2 (own_ne_ty HU.out.2.2.2.2.1 (HU.out.2.2.1.alloc _) (by decide))
      have g4 := u4a.grown hgr2 (own_ne_ty HU.out.2.2.2.2.1 u4a (by decide))
      have hbw2 : Below w.heap.size w w2 := (HU.out.2.2.2.2.2.1.alloc (by omega) _).grown hgr2 (by simp; omega) (fun g hg => (HU.out.2.2.2.2.1.lt g hg).1)
      have p0 := g4.cell 0 (v := .slice PA k pc) rfl
      have z0 := g4.frozen 0
      have hs2 := hgr2.size
      rw [World.size_alloc] at hs2
      have h4' : Blk (w2.setCell ⟨w.heap.size + 2, 0, none⟩ (.slice PA2 (k + 1) pc2)) (w.heap.size + 2) 34 #[.slice PA2 (k + 1) pc2] := by
        have := g4.set_ 0 (.slice PA2 (k + 1) pc2)
        simpa using this
      have h1' := g1.far (p := ⟨w.heap.size + 2, 0, none⟩) (blk_ne_ty g1 g4 (by decide)) (.slice PA2 (k + 1) pc2)
      have h2' := g2.far (p := ⟨w.heap.size + 2, 0, none⟩) (blk_ne_ty g2 g4 (by decide)) (.slice PA2 (k + 1) pc2)
      have h3' := g3.far (p := ⟨w.heap.size + 2, 0, none⟩) (blk_ne_ty g3 g4 (by decide)) (.slice PA2 (k + 1) pc2)
      have h5' := hown2.setCell ⟨w.heap.size + 2, 0, none⟩ (.slice PA2 (k + 1) pc2) (own_ne_ty hown2 g4 (by decide))
      have hb' := hbw2.setCell (p := ⟨w.heap.size + 2, 0, none⟩) (show w.heap.size ≤ w.heap.size + 2 by omega) (.slice PA2 (k + 1) pc2)
      have HV := Lib.hid (And.intro (h1') (And.intro (h2') (And.intro (h3') (And.intro (h4') (And.intro (h5') (hb'))))))
      clear h1' h2' h3' h4' h5' hb' g1 g2 g3 g4 u4a hbw2 hown2 hgr2 hat2
      go_upto_region 7 with fail
      refine wp_world (fun V => Blk V wr.heap.size 46 #[.int .i64 x.kind, .int .i64 x.num, .slice VA x.vals.length vc, .slice FA x.frames.length fc] ∧ Blk V w.heap.size 32 #[.slice (some ⟨b, o, none⟩) s.cells.length cc, .slice SA s.shapes.length sc, .slice TA s.texts.length tc, .slice HA s.threads.length hc, .slice EA s.ends.length ec, .slice DA s.said.length dc, .int .i64 s.asked, .int .i64 s.steps] ∧ Blk V (w.heap.size + 1) 56 #[.slice none 0 0, .slice none 0 0] ∧ Blk V (w.heap.size + 2) 34 #[.slice PA2 (k + 1) pc2] ∧ Own V w.heap.size 3 PA2 pc2 (plI ((plcs s).take k) ++ [(a : Int)]) ∧ Below w.heap.size w V ∧ w.heap.size + 3 ≤ V.heap.size) ⟨HV.out.1, HV.out.2.1, HV.out.2.2.1, HV.out.2.2.2.1, HV.out.2.2.2.2.1, HV.out.2.2.2.2.2, by simp; omega⟩ ?_
      rintro V ⟨v1, v2, v3, v4, v5, v6, v7⟩
      clear p0 z0
      have e0 := v1.cell 0 (v := .int .i64 x.kind) rfl
      have e1 := v1.cell 1 (v := .int .i64 x.num) rfl
      have e2 := v1.cell 2 (v := .slice VA x.vals.length vc) rfl
      have e3 := v1.cell 3 (v := .slice FA x.frames.length fc) rfl
      have hha := rHas_any B vc fc VA FA x V (HU.out.2.2.2.2.2.2.2.2.2.2.2.1.below (v6.mono hB)) (HU.out.2.2.2.2.2.2.2.2.2.2.2.2.below (v6.mono hB)) (by omega) hxl
      have hcl : a + (1 + (cHas x).length) ≤ 1073741824 := by have h1 := HU.out.2.2.2.2.2.2.2.1; have h2 := HU.out.2.2.2.2.2.2.2.2.1; omega
      have HY := Lib.hid (And.intro (hha) (And.intro (v2) (And.intro (v3) (And.intro (v4) (And.intro (v5) (v6))))))
      clear hha v1 v2 v3 v4 v5 v6
      go_wp2_with fail
      refine HY.out.1.mono ?_
      rintro e w3 ⟨A3, c3, rfl, -, -, hb3⟩
      have y2 := HY.out.2.1.fresh hb3
      have y3 := HY.out.2.2.1.fresh hb3
      have y4 := HY.out.2.2.2.1.fresh hb3
      have y5 := HY.out.2.2.2.2.1.fresh hb3
      have y6 := HY.out.2.2.2.2.2.trans (hb3.mono (by omega))
      have hs3 := hb3.size
      obtain ⟨nn, hnn⟩ : ∃ nn, (cHas x).length = nn := ⟨_, rfl⟩
      rw [hnn] at hcl ⊢
      have HZ := Lib.hid (And.intro (y2) (And.intro (y3) (And.intro (y4) (And.intro (y5) (And.intro (y6) (hnn))))))
      clear y2 y3 y4 y5 y6 hb3 hnn e0 e1 e2 e3
      go_wp2_with fail
      go_roundg (s.cells.length - (k + 1))
      case measure => omega
      case rel => exact ⟨k + 1, a + (1 + nn), PA2, pc2, by omega, rfl, by go_num, by go_num, hcl, ⟨by have h1 := HU.out.2.2.2.2.2.2.2.2.1; have h2 := HU.out.2.2.2.2.2.2.2.1; have h3 := HZ.out.2.2.2.2.2; omega, HZ.out.1, HZ.out.2.1, HZ.out.2.2.1, by rw [HU.out.2.2.2.2.2.2.2.2.2.1]; exact HZ.out.2.2.2.1⟩, HZ.out.2.2.2.2.1, by omega⟩
    · obtain rfl : k = s.cells.length := by omega
      obtain ⟨q1, q2, q3, q4, q5⟩ := hkeep.out
      rw [List.take_of_length_le (by rw [plcs_len]; exact Nat.le_refl _)] at q5
      have hpb : ∀ z ∈ plI (plcs s), I64 z := fun z hz => by
        unfold plI at hz
        obtain ⟨p, hp, rfl⟩ := List.mem_map.1 hz
        obtain ⟨j, hj⟩ := List.getElem?_of_mem hp
        have hjl := (List.getElem?_eq_some_iff.1 hj).1
        rw [plcs_len] at hjl
        rw [plcs_get hjl] at hj
        injection hj with hj
        have := H.out.2.2.2.2.2.2 j
        unfold I64; omega
      have HK := Lib.hid (And.intro (q2) (And.intro (q3) (And.intro (q4) (And.intro (q5) (hbl)))))
      have HPB := Lib.hid (hpb)
      clear q1 q2 q3 q4 q5 hkeep hbl hpb
      go_upto_region 11 with fail
      refine wp_world (fun V => HSt s w w.heap.size (w.heap.size + 1) (w.heap.size + 2) wr.heap.size #[.slice CA s.cells.length cc, .slice SA s.shapes.length sc, .slice TA s.texts.length tc, .slice HA s.threads.length hc, .slice EA s.ends.length ec, .slice DA s.said.length dc, .int .i64 s.asked, .int .i64 s.steps] PA pc none 0 [] none 0 [] V ∧ wr.heap.size + 1 ≤ V.heap.size) ⟨⟨HK.out.1.alloc _, HK.out.2.2.1.alloc _, HK.out.2.2.2.1.alloc _, Blk.new _ _ _, HK.out.2.1.alloc _, Own.nil_, Own.nil_, (fun g hg => by cases hg), HK.out.2.2.2.2.alloc (by omega) _, by omega, by omega⟩, by simp⟩ ?_
      rintro V ⟨hV, hsV⟩
      obtain ⟨Hb, hHb⟩ : ∃ Hb, wr.heap.size = Hb := ⟨_, rfl⟩
      rw [hHb] at hV hsV ⊢
      have hHw : w.heap.size + 3 ≤ Hb := by omega
      have s0 := hV.st.cell 0 (v := .slice CA s.cells.length cc) rfl
      have HV := Lib.hid (hV)
      clear hV hHb
      go_wp2_with fail
      clear s0
      go_loopg [44] (s.cells.length) (fun gk iv wr => ∃ (k : Nat) (WA : Option Addr) (wc : Nat) (ws : List U64), k ≤ s.cells.length ∧ gk = s.cells.length - k ∧ iv = .int .i64 k ∧ ws.length ≤ 1073741824 ∧ Hid (ws = ((obsT s).take k).flatten ∧ HSt s w w.heap.size (w.heap.size + 1) (w.heap.size + 2) Hb #[.slice CA s.cells.length cc, .slice SA s.shapes.length sc, .slice TA s.texts.length tc, .slice HA s.threads.length hc, .slice EA s.ends.length ec, .slice DA s.said.length dc, .int .i64 s.asked, .int .i64 s.steps] PA pc WA wc ws none 0 [] wr ∧ ∀ c ∈ s.cells.take k, ∀ v ∈ cHas c, okV s.cells.length v) ∧ Hb + 1 ≤ wr.heap.size)
      case atStart => exact ⟨0, none, 0, [], Nat.zero_le _, rfl, rfl, Nat.zero_le _, ⟨by simp, HV.out, fun c hc => by simp at hc⟩, hsV⟩
      case round =>
        obtain ⟨k, WA, wc, ws, hk, rfl, rfl, hwl, hkeep, hsz⟩ := hrel
        by_cases hlt : k < s.cells.length
        · obtain ⟨b, o, x, VA, vc, FA, fc, rfl, hb, hx, c0, c1, c2, c3, aV, lV, aF, lF, j1, j2⟩ := (H.out.1.a1.below (hkeep.out.2.1.b.mono hB)).ce_ hlt
          have hk0 : (0 : Int) ≤ (k : Int) := by omega
          have hk1 : (k : Int) < (s.cells.length : Int) := by omega
          have hxl := H.out.2.2.2.2.1 x (List.mem_of_getElem? hx)
          have hnx := Sto.st_succ (obsT_get hx)
          rw [objOf_length] at hnx
          have hst1 := H.out.2.2.2.2.2.2 (k + 1)
          have hwse : ws.length = st (obsT s) k := by rw [hkeep.out.1]; rfl
          go_upto_region 14 with fail
          refine wp_world (fun U => Blk U wr.heap.size 46 #[.int .i64 x.kind, .int .i64 x.num, .slice VA x.vals.length vc, .slice FA x.frames.length fc] ∧ Below wr.heap.size wr U ∧ wr.heap.size + 1 ≤ U.heap.size) ⟨Blk.new _ _ _, (Below.refl _ _).alloc (Nat.le_refl _) _, by simp⟩ ?_
          rintro U ⟨hC, hbU, hsU⟩
          have e0 := hC.cell 0 (v := .int .i64 x.kind) rfl
          have e1 := hC.cell 1 (v := .int .i64 x.num) rfl
          have e2 := hC.cell 2 (v := .slice VA x.vals.length vc) rfl
          have e3 := hC.cell 3 (v := .slice FA x.frames.length fc) rfl
          have hGU := hkeep.out.2.1.fresh hbU
          have hha := rHas_any B vc fc VA FA x U (aV.below (hbU.mono (by omega))) (aF.below (hbU.mono (by omega))) (by omega) hxl
          have hwn : ws.length + 1 + (cHas x).length ≤ 1073741824 := by omega
          have HU := Lib.hid (And.intro (hha) (And.intro (hGU) (And.intro (hx) (And.intro (hkeep.out.1) (hkeep.out.2.2)))))
          clear hha hGU hC hbU hkeep aV aF hx c0 c1 c2 c3 j1 j2 hwse hnx hst1
          go_wp2_with fail
          refine HU.out.1.mono ?_
          rintro e w2 ⟨A2, c2, rfl, ho2, hok2, hb2⟩
          have hG2 := HU.out.2.1.fresh hb2
          have hs2 := hb2.size
          have hGa := hG2.fresh ((Below.refl _ _).alloc (Nat.le_refl _) (.cells #[.int .u64 ((cHas x).length : Int)] 73))
          have w0c := hG2.h.cell 0 (v := .slice WA ws.length wc) rfl
          obtain ⟨nn, hnn⟩ : ∃ nn, (cHas x).length = nn := ⟨_, rfl⟩
          rw [hnn] at hwn hGa ⊢
          have hwrap : IntKind.u64.wrap (nn : Int) = (nn : Int) := by rw [IntKind.wrap_u64]; omega
          have H2 := Lib.hid (And.intro (hGa) (And.intro (((ho2.base_le (base' := w.heap.size) (by omega)).alloc (.cells #[.int .u64 (nn : Int)] 73))) (And.intro (hok2) (hnn))))
          clear hG2 hGa ho2 hok2 hb2 hnn e0 e1 e2 e3
          go_wp2_with (at_builtin; go_must (refine wpList_app (α := U64) (m := 1) (B := w2.heap.size + 1) (r := [(⟨(nn : Int)⟩ : U64)]) rfl (.tmp 51) (.tmp 55) _ rfl w.heap.size 73 i0 _ 8 Tryz.underlying54 hi hz0 hz1 hz2 rfl (by decide) u64_oneT (by rfl) rfl H2.out.1.wo (by rfl) (At.built w2 _ _ [(⟨(nn : Int)⟩ : U64)] rfl (by intro z hz; simp at hz; subst hz; exact (show 0 ≤ (nn : Int) ∧ (nn : Int) ≤ 18446744073709551615 by omega))) rfl (by omega) (by simp only [maxLen]; omega) (by simp; omega) ?_))
          intro WA3 wc3 w3 hown3 hgr3 hat3
          have hs3 := hgr3.size
          rw [World.size_alloc] at hs3
          have hh3 := H2.out.1.h.grown hgr3 (own_ne_ty H2.out.1.wo H2.out.1.h (by decide))
          have hn3 := H2.out.1.appW hown3 hgr3 (by first | exact hat3 | (rw [World.size_alloc]; exact hat3)) (n := ws.length + 1) (by simp)
          have hv3 := H2.out.2.1.grown hgr3 (fun g hg e => own_own_ty H2.out.2.1 H2.out.1.wo (by decide) g hg e)
          have hv4 := hv3.setCell ⟨Hb, 0, none⟩ (.slice WA3 (ws.length + 1) wc3) (own_ne_ty hv3 hh3 (by decide))
          have w0c := hh3.cell 0 (v := .slice WA ws.length wc) rfl
          have z0 := hh3.frozen 0
          have H3 := Lib.hid (And.intro (hn3) (hv4))
          clear hn3 hv3 hv4 hh3 hown3 hgr3 hat3 hwrap
          go_upto_region 16 with fail
          refine wp_world (fun V4 => HSt s w w.heap.size (w.heap.size + 1) (w.heap.size + 2) Hb #[.slice (some ⟨b, o, none⟩) s.cells.length cc, .slice SA s.shapes.length sc, .slice TA s.texts.length tc, .slice HA s.threads.length hc, .slice EA s.ends.length ec, .slice DA s.said.length dc, .int .i64 s.asked, .int .i64 s.steps] PA pc WA3 wc3 (ws ++ [⟨(nn : Int)⟩]) none 0 [] V4 ∧ Own V4 w.heap.size 48 A2 c2 (cHas x) ∧ Hb + 1 ≤ V4.heap.size) ⟨H3.out.1, H3.out.2, by simp; omega⟩ ?_
          rintro V4 ⟨hV4, hO4, hs4⟩
          have H4 := Lib.hid (And.intro (hV4) (hO4))
          clear hV4 hO4 w0c z0
          go_wp2_with fail
          go_loopg [60] (nn) (fun gi iv wi => ∃ (i : Nat) (WB : Option Addr) (wd : Nat) (ws3 : List U64), i ≤ nn ∧ gi = nn - i ∧ iv = .int .i64 i ∧ ws3.length ≤ ws.length + 1 + i ∧ Hid (ws3 = ws ++ ⟨(nn : Int)⟩ :: ((cHas x).take i).map (wordOf (plcs s)) ∧ HSt s w w.heap.size (w.heap.size + 1) (w.heap.size + 2) Hb #[.slice (some ⟨b, o, none⟩) s.cells.length cc, .slice SA s.shapes.length sc, .slice TA s.texts.length tc, .slice HA s.threads.length hc, .slice EA s.ends.length ec, .slice DA s.said.length dc, .int .i64 s.asked, .int .i64 s.steps] PA pc WB wd ws3 none 0 [] wi ∧ Own wi w.heap.size 48 A2 c2 (cHas x) ∧ ∀ v ∈ (cHas x).take i, okV s.cells.length v) ∧ Hb + 1 ≤ wi.heap.size)
          case atStart => exact ⟨0, WA3, wc3, _, Nat.zero_le _, rfl, rfl, by simp, ⟨by simp, H4.out.1, H4.out.2, fun v hv => by simp at hv⟩, hs4⟩
          case round =>
            obtain ⟨i, WB, wd, ws3, hil, rfl, rfl, hw3, hkeep, hsz⟩ := hrel
            by_cases hit : i < nn
            · obtain ⟨b5, o5, v, rfl, hb5, hv, q0, q1, iv0, iv1⟩ := (hkeep.out.2.2.1.at_ H2.out.2.2.1).pairT (by rw [H2.out.2.2.2]; exact hit)
              have hi0 : (0 : Int) ≤ (i : Int) := by omega
              have hi1 : (i : Int) < (nn : Int) := by omega
              go_upto_region 19 with fail
              refine wp_world (fun U => Blk U wr.heap.size 48 #[.int .i64 v.1, .int .i64 v.2] ∧ Below wr.heap.size wr U ∧ wr.heap.size + 1 ≤ U.heap.size) ⟨Blk.new _ _ _, (Below.refl _ _).alloc (Nat.le_refl _) _, by simp⟩ ?_
              rintro U ⟨hVl, hbU, hsU⟩
              have v0 := hVl.cell 0 (v := .int .i64 v.1) rfl
              have v1 := hVl.cell 1 (v := .int .i64 v.2) rfl
              have hGU := hkeep.out.2.1.fresh hbU
              have hbx := bxd_any U U.heap.size (w.heap.size + 2) s.cells.length pc PA (plcs s) v.1 v.2 hGU.p (plcs_len s) (hGU.po.at_ HPB.out) (Nat.le_refl _) iv0 iv1
              have HX := Lib.hid (And.intro (hbx) (And.intro (hGU) (And.intro ((hkeep.out.2.2.1.fresh hbU)) (And.intro (hv) (And.intro (hkeep.out.1) (hkeep.out.2.2.2))))))
              clear hbx hGU hVl hbU hkeep hv q0 q1 iv0 iv1
              go_wp2_with fail
              refine HX.out.1.mono ?_
              rintro e w6 ⟨bx, bb, rfl, hbb, hb6⟩
              have hG6 := HX.out.2.1.fresh hb6
              have hs6 := hb6.size
              have hv6 := HX.out.2.2.1.fresh hb6
              cases bb with
              | false =>
                have rb := bel_setRow hG6.b (show w.heap.size ≤ w.heap.size + 1 by omega) #[.slice none 0 0, .slice none 0 0]
                have HR := Lib.hid (And.intro (hG6.r) (rb))
                clear hG6 hbb hv6 hb6 v0 v1 rb
                go_wp2_with (refine wpList_st rfl 56 (.tmp 2) (.tmp 72) rfl (w.heap.size + 1) rfl rfl HR.out.1 (by kernel_rfl) rfl rfl ?_)
                refine bodyPost_ret (results_cell_tmp2 rfl _ _ (w.heap.size + 1) _ _ _ rfl HR.out.1.setRow Tryz.underlying56 rfl (by kernel_rfl)) rfl ?_
                rw [← HP.out]
                exact ⟨HR.out.2, .inl ⟨_, _, _, _, _, _, _, _, _, rfl⟩⟩
              | true =>
                obtain ⟨hokv, hbxe⟩ := hbb rfl
                subst hbxe
                have w0c := hG6.h.cell 0 (v := .slice WB ws3.length wd) rfl
                have hGa := hG6.fresh ((Below.refl _ _).alloc (Nat.le_refl _) (.cells #[.int .u64 (wordOf (plcs s) v).val] 73))
                have H6 := Lib.hid (And.intro (hGa) (And.intro ((hv6.alloc (.cells #[.int .u64 (wordOf (plcs s) v).val] 73))) (hokv)))
                clear hG6 hGa hbb hv6 hb6 v0 v1 hokv
                go_wp2_with (at_builtin; go_must (refine wpList_app (α := U64) (m := 1) (B := w6.heap.size + 1) (r := [wordOf (plcs s) v]) rfl (.tmp 74) (.tmp 76) _ rfl w.heap.size 73 i0 _ 8 Tryz.underlying54 hi hz0 hz1 hz2 rfl (by decide) u64_oneT (by rfl) rfl H6.out.1.wo (by rfl) (At.built w6 _ _ [wordOf (plcs s) v] rfl (by intro z hz; simp at hz; subst hz; exact (wordOf_flat _ _))) rfl (by omega) (by simp only [maxLen]; omega) (by simp; omega) ?_))
                intro WE we w7 hown7 hgr7 hat7
                have hs7 := hgr7.size
                rw [World.size_alloc] at hs7
                have hh7 := H6.out.1.h.grown hgr7 (own_ne_ty H6.out.1.wo H6.out.1.h (by decide))
                have hn7 := H6.out.1.appW hown7 hgr7 (by first | exact hat7 | (rw [World.size_alloc]; exact hat7)) (n := ws3.length + 1) (by simp)
                have hv7 := H6.out.2.1.grown hgr7 (fun g hg e => own_own_ty H6.out.2.1 H6.out.1.wo (by decide) g hg e)
                have hv8 := hv7.setCell ⟨Hb, 0, none⟩ (.slice WE (ws3.length + 1) we) (own_ne_ty hv7 hh7 (by decide))
                have w0c := hh7.cell 0 (v := .slice WB ws3.length wd) rfl
                have z0 := hh7.frozen 0
                have H7 := Lib.hid (And.intro (hn7) (hv8))
                clear hn7 hv7 hv8 hh7 hown7 hgr7 hat7
                go_wp2_with fail
                go_roundg (nn - (i + 1))
                case measure => omega
                case rel =>
                  refine ⟨i + 1, WE, we, _, by omega, rfl, by go_num, by simp; omega, ⟨?_, H7.out.1, H7.out.2, fun z hz => ?_⟩, by simp; omega⟩
                  · rw [HX.out.2.2.2.2.1, List.take_add_one, HX.out.2.2.2.1]; simp
                  · rw [List.take_add_one, HX.out.2.2.2.1, List.mem_append] at hz
                    rcases hz with hz | hz
                    · exact HX.out.2.2.2.2.2 z hz
                    · simp at hz; subst hz; have h9 := H6.out.2.2; rw [plcs_len] at h9; exact h9
            · have hke : (cHas x).take i = cHas x := List.take_of_length_le (by have := H2.out.2.2.2; omega)
              have hk3 := hkeep.out
              rw [hke] at hk3
              have hfin : ws3 = ((obsT s).take (k + 1)).flatten := by
                rw [hk3.1, List.take_add_one, obsT_get HU.out.2.2.1, List.flatten_append, ← HU.out.2.2.2.1]
                unfold objOf
                rw [H2.out.2.2.2]
                simp
              have hoks : ∀ c ∈ s.cells.take (k + 1), ∀ v ∈ cHas c, okV s.cells.length v := fun c hc v hv => by
                rw [List.take_add_one, HU.out.2.2.1, List.mem_append] at hc
                rcases hc with hc | hc
                · exact HU.out.2.2.2.2 c hc v hv
                · simp at hc; subst hc; exact hk3.2.2.2 v hv
              have HF := Lib.hid (And.intro (hfin) (And.intro (hk3.2.1) (hoks)))
              clear hfin hk3 hoks hke hkeep
              go_wp2_with fail
              go_roundg (s.cells.length - (k + 1))
              case measure => omega
              case rel => exact ⟨k + 1, WB, wd, ws3, by omega, rfl, by go_num, by omega, ⟨HF.out.1, HF.out.2.1, HF.out.2.2⟩, hsz⟩
        · obtain rfl : k = s.cells.length := by omega
          obtain ⟨hwe, hG, hoks⟩ := hkeep.out
          rw [List.take_of_length_le (by rw [obsT_len]; exact Nat.le_refl _)] at hwe
          rw [List.take_length] at hoks
          obtain ⟨s0, s1, s2, s3, s4, s5, s6, s7⟩ := hG.st.cells8
          have hbs := hG.b.size
          have hrr := rRoots_any B cc sc tc hc ec dc CA SA TA HA EA DA s wr (H.out.1.below (hG.b.mono hB)) (by omega) H.out.2.1 H.out.2.2.1 H.out.2.2.2.1
          have HL := Lib.hid (And.intro (hwe) (And.intro (hoks) (And.intro (hrr) (hG))))
          clear hwe hoks hrr hG hkeep
          go_wp2_with fail
          refine HL.out.2.2.1.mono ?_
          rintro e w8 ⟨RA, rc, rfl, hro, hri, hb8⟩
          have hG8 := HL.out.2.2.2.fresh hb8
          have hs8 := hb8.size
          have hro8 := hro.base_le (base' := w.heap.size) hbs
          have hnr := H.out.2.2.1
          obtain ⟨nr, hnre⟩ : ∃ nr, (roots s).length = nr := ⟨_, rfl⟩
          rw [hnre] at hnr ⊢
          have H8 := Lib.hid (And.intro (hG8) (And.intro (hro8) (And.intro (hri) (hnre))))
          clear hG8 hro hro8 hri hb8 hnre s0 s1 s2 s3 s4 s5 s6 s7
          go_wp2_with fail
          go_loopg [84] (nr) (fun gi iv wi => ∃ (i : Nat) (GA : Option Addr) (gc : Nat) (gs : List U64), i ≤ nr ∧ gi = nr - i ∧ iv = .int .i64 i ∧ gs.length ≤ i ∧ Hid (gs = (rootsT s).take i ∧ HSt s w w.heap.size (w.heap.size + 1) (w.heap.size + 2) Hb #[.slice CA s.cells.length cc, .slice SA s.shapes.length sc, .slice TA s.texts.length tc, .slice HA s.threads.length hc, .slice EA s.ends.length ec, .slice DA s.said.length dc, .int .i64 s.asked, .int .i64 s.steps] PA pc WA wc ws GA gc gs wi ∧ Own wi w.heap.size 3 RA rc (roots s)) ∧ Hb + 1 ≤ wi.heap.size)
          case atStart => exact ⟨0, none, 0, [], Nat.zero_le _, rfl, rfl, Nat.zero_le _, ⟨by simp, H8.out.1, H8.out.2.1⟩, by omega⟩
          case round =>
            obtain ⟨i, GA, gc, gs, hil, rfl, rfl, hgl, hkeep, hsz⟩ := hrel
            by_cases hit : i < nr
            · obtain ⟨b5, o5, kx, rfl, hb5, hv, ikx, q0⟩ := (hkeep.out.2.2.at_ H8.out.2.2.1).int_ (by rw [H8.out.2.2.2]; exact hit)
              have hi0 : (0 : Int) ≤ (i : Int) := by omega
              have hi1 : (i : Int) < (nr : Int) := by omega
              have hG4 := hkeep.out.2.1
              have hbx := bxd_any wr wr.heap.size (w.heap.size + 2) s.cells.length pc PA (plcs s) 5 kx hG4.p (plcs_len s) (hG4.po.at_ HPB.out) (Nat.le_refl _) (by unfold I64; omega) ikx
              have hrt : (rootsT s)[i]? = some (wordOf (plcs s) (5, kx)) := by unfold rootsT wordOf; rw [List.getElem?_map, hv, if_pos rfl]; rfl
              have HX := Lib.hid (And.intro (hbx) (And.intro (hG4) (And.intro (hkeep.out.2.2) (And.intro (hrt) (hkeep.out.1)))))
              clear hbx hG4 hkeep hrt hv ikx
              go_wp2_with fail
              refine HX.out.1.mono ?_
              rintro e w6 ⟨bx, bb, rfl, hbb, hb6⟩
              have hG6 := HX.out.2.1.fresh hb6
              have hs6 := hb6.size
              have hv6 := HX.out.2.2.1.fresh hb6
              cases bb with
              | false =>
                have rb := bel_setRow hG6.b (show w.heap.size ≤ w.heap.size + 1 by omega) #[.slice none 0 0, .slice none 0 0]
                have HR := Lib.hid (And.intro (hG6.r) (rb))
                clear hG6 hbb hv6 hb6 rb q0
                go_wp2_with (refine wpList_st rfl 56 (.tmp 2) (.tmp 97) rfl (w.heap.size + 1) rfl rfl HR.out.1 (by kernel_rfl) rfl rfl ?_)
                refine bodyPost_ret (results_cell_tmp2 rfl _ _ (w.heap.size + 1) _ _ _ rfl HR.out.1.setRow Tryz.underlying56 rfl (by kernel_rfl)) rfl ?_
                rw [← HP.out]
                exact ⟨HR.out.2, .inl ⟨_, _, _, _, _, _, _, _, _, rfl⟩⟩
              | true =>
                obtain ⟨hokv, hbxe⟩ := hbb rfl
                subst hbxe
                have w1c := hG6.h.cell 1 (v := .slice GA gs.length gc) rfl
                have hGa := hG6.fresh ((Below.refl _ _).alloc (Nat.le_refl _) (.cells #[.int .u64 (wordOf (plcs s) (5, kx)).val] 73))
                have H6 := Lib.hid (And.intro (hGa) (And.intro ((hv6.alloc (.cells #[.int .u64 (wordOf (plcs s) (5, kx)).val] 73))) (hokv)))
                clear hG6 hGa hbb hv6 hb6 hokv q0
                go_wp2_with (at_builtin; go_must (refine wpList_app (α := U64) (m := 1) (B := w6.heap.size + 1) (r := [wordOf (plcs s) (5, kx)]) rfl (.tmp 99) (.tmp 101) _ rfl w.heap.size 73 i0 _ 8 Tryz.underlying54 hi hz0 hz1 hz2 rfl (by decide) u64_oneT (by rfl) rfl H6.out.1.go_ (by rfl) (At.built w6 _ _ [wordOf (plcs s) (5, kx)] rfl (by intro z hz; simp at hz; subst hz; exact (wordOf_flat _ _))) rfl (by omega) (by simp only [maxLen]; omega) (by simp; omega) ?_))
                intro GE ge w7 hown7 hgr7 hat7
                have hs7 := hgr7.size
                rw [World.size_alloc] at hs7
                have hh7 := H6.out.1.h.grown hgr7 (own_ne_ty H6.out.1.go_ H6.out.1.h (by decide))
                have hn7 := H6.out.1.appG hown7 hgr7 (by first | exact hat7 | (rw [World.size_alloc]; exact hat7)) (n := gs.length + 1) (by simp)
                have hv7 := H6.out.2.1.grown hgr7 (fun g hg e => own_own_ty H6.out.2.1 H6.out.1.go_ (by decide) g hg e)
                have hv8 := hv7.setCell ⟨Hb, 1, none⟩ (.slice GE (gs.length + 1) ge) (own_ne_ty hv7 hh7 (by decide))
                have w1c := hh7.cell 1 (v := .slice GA gs.length gc) rfl
                have z1 := hh7.frozen 1
                have H7 := Lib.hid (And.intro (hn7) (hv8))
                clear hn7 hv7 hv8 hh7 hown7 hgr7 hat7
                go_wp2_with fail
                go_roundg (nr - (i + 1))
                case measure => omega
                case rel => exact ⟨i + 1, GE, ge, _, by omega, rfl, by go_num, by simp; omega, ⟨by rw [HX.out.2.2.2.2, List.take_add_one, HX.out.2.2.2.1]; rfl, H7.out.1, H7.out.2⟩, by simp; omega⟩
            · have hge : gs = rootsT s := by rw [hkeep.out.1, List.take_of_length_le (by unfold rootsT; rw [List.length_map, H8.out.2.2.2]; omega)]
              have hgn : gs.length = (roots s).length := by rw [hge]; unfold rootsT; rw [List.length_map]
              have hG := hkeep.out.2.1
              have hGd : HSt s w w.heap.size (w.heap.size + 1) (w.heap.size + 2) Hb #[.slice CA s.cells.length cc, .slice SA s.shapes.length sc, .slice TA s.texts.length tc, .slice HA s.threads.length hc, .slice EA s.ends.length ec, .slice DA s.said.length dc, .int .i64 s.asked, .int .i64 s.steps] PA pc WA wc ws GA gc gs wr.drew := ⟨hG.st, hG.p, hG.po, hG.h, hG.r, hG.wo, hG.go_, hG.ap, hG.b.drew, hG.hH, hG.hne⟩
              have g0 := hGd.h.cell 0 (v := .slice WA ws.length wc) rfl
              have g1 := hGd.h.cell 1 (v := .slice GA gs.length gc) rfl
              have p0 := hGd.p.cell 0 (v := .slice PA s.cells.length pc) rfl
              have r0 := hGd.r.cell 0 (v := .slice none 0 0) rfl
              have r1 := hGd.r.cell 1 (v := .slice none 0 0) rfl
              have z0 := hGd.r.frozen 0
              have z1 := hGd.r.frozen 1
              have r1' : wr.cell? ⟨w.heap.size + 1, 1, none⟩ = some (.slice none 0 0) := r1
              have z1' : wr.frozen? ⟨w.heap.size + 1, 1, none⟩ = false := z1
              have hGR : Hb ≠ w.heap.size + 1 := by omega
              have hRG : w.heap.size + 1 ≠ Hb := by omega
              have hPR : w.heap.size + 2 ≠ w.heap.size + 1 := by omega
              have hrn : Blk ((wr.drew.setCell ⟨w.heap.size + 1, 0, none⟩ (.slice WA ws.length wc)).setCell ⟨w.heap.size + 1, 1, none⟩ (.slice GA gs.length gc)) (w.heap.size + 1) 56 #[.slice WA ws.length wc, .slice GA gs.length gc] := by
                have := (hGd.r.set_ 0 (.slice WA ws.length wc)).set_ 1 (.slice GA gs.length gc)
                simpa using this
              have hgn2 := (hGd.h.far (p := ⟨w.heap.size + 1, 0, none⟩) hGR (.slice WA ws.length wc)).far (p := ⟨w.heap.size + 1, 1, none⟩) hGR (.slice GA gs.length gc)
              have hpn2 := (hGd.p.far (p := ⟨w.heap.size + 1, 0, none⟩) hPR (.slice WA ws.length wc)).far (p := ⟨w.heap.size + 1, 1, none⟩) hPR (.slice GA gs.length gc)
              have hbn : Below w.heap.size w ((wr.drew.setCell ⟨w.heap.size + 1, 0, none⟩ (.slice WA ws.length wc)).setCell ⟨w.heap.size + 1, 1, none⟩ (.slice GA gs.length gc)) := (hGd.b.setCell (p := ⟨w.heap.size + 1, 0, none⟩) (show w.heap.size ≤ w.heap.size + 1 by omega) _).setCell (p := ⟨w.heap.size + 1, 1, none⟩) (show w.heap.size ≤ w.heap.size + 1 by omega) _
              have nw := own_ne_ty hGd.wo hGd.r (by decide)
              have ng := own_ne_ty hGd.go_ hGd.r (by decide)
              have np := own_ne_ty hGd.po hGd.r (by decide)
              have hwf := ((hGd.wo.setCell ⟨w.heap.size + 1, 0, none⟩ (.slice WA ws.length wc) nw).setCell ⟨w.heap.size + 1, 1, none⟩ (.slice GA gs.length gc) nw).at_ (fun z hz => by
                rw [HL.out.1] at hz
                obtain ⟨o, ho, hz⟩ := List.mem_flatten.1 hz
                unfold obsT at ho
                obtain ⟨c, hc, rfl⟩ := List.mem_map.1 ho
                unfold objOf at hz
                rcases List.mem_cons.1 hz with rfl | hz
                · obtain ⟨j, hj⟩ := List.getElem?_of_mem hc
                  have h1 := Sto.st_succ (obsT_get hj)
                  have h2 := H.out.2.2.2.2.2.2 (j + 1)
                  rw [objOf_length] at h1
                  show 0 ≤ ((cHas c).length : Int) ∧ ((cHas c).length : Int) ≤ 18446744073709551615
                  omega
                · obtain ⟨v, -, rfl⟩ := List.mem_map.1 hz
                  exact wordOf_flat _ _)
              have hgf := ((hGd.go_.setCell ⟨w.heap.size + 1, 0, none⟩ (.slice WA ws.length wc) ng).setCell ⟨w.heap.size + 1, 1, none⟩ (.slice GA gs.length gc) ng).at_ (fun z hz => by
                rw [hge] at hz
                unfold rootsT at hz
                obtain ⟨k, -, rfl⟩ := List.mem_map.1 hz
                exact boxL_rangeT _ _)
              have hpf := ((hGd.po.setCell ⟨w.heap.size + 1, 0, none⟩ (.slice WA ws.length wc) np).setCell ⟨w.heap.size + 1, 1, none⟩ (.slice GA gs.length gc) np).at_ HPB.out
              have hwcp := hGd.wo.le_cap.1
              have HN := Lib.hid (And.intro (hrn) (And.intro (hgn2) (And.intro (hpn2) (And.intro (hbn) (hgn)))))
              have HM := Lib.hid (And.intro (hwf) (And.intro (hgf) (And.intro (hpf) (And.intro (hwcp) (hge)))))
              clear hrn hgn2 hpn2 hbn hgn hwf hgf hpf hwcp hkeep hG hGd hge hgl nw ng np
              by_cases q1 : (ws.length : Int) ≤ 2000
              · have d1 : decide ((ws.length : Int) ≤ 2000) = true := decide_eq_true q1
                by_cases q2 : (gs.length : Int) ≤ 100
                · have d2 : decide ((gs.length : Int) ≤ 100) = true := decide_eq_true q2
                  have HQ := Lib.hid (And.intro q1 q2); clear q1 q2
                  go_upto_region 33 with fail
                  refine wp_region_held_drew (S := (fun w' => w'.cell? ⟨Hb, 0, none⟩ = some (.slice WA ws.length wc) ∧ w'.cell? ⟨Hb, 1, none⟩ = some (.slice GA gs.length gc) ∧ w'.cell? ⟨w.heap.size + 2, 0, none⟩ = some (.slice PA s.cells.length pc))) (by kernel_rfl) ?_ (fun hHeld0 => ?_)
                  · first | trivial | ((try dsimp only); (exact ⟨g0, g1, p0⟩))
                  refine htk 0 rfl ?_
                  try go_frame
                  refine htk 1 rfl ?_
                  try go_frame
                  refine htk 2 rfl ?_
                  try go_frame
                  refine htk 3 rfl ?_
                  try go_frame
                  refine htk 4 rfl ?_
                  try go_frame
                  refine htk 5 rfl ?_
                  try go_frame
                  refine htk 6 rfl ?_
                  try go_frame
                  refine htk 7 rfl ?_
                  try go_frame
                  refine htk 8 rfl ?_
                  try go_frame
                  refine htk 9 rfl ?_
                  try go_frame
                  refine htk 10 rfl ?_
                  try go_frame
                  refine htk 11 rfl ?_
                  try go_frame
                  refine held_call 12 (by kernel_rfl) rfl (fun K hK => ?_)
                  go_simp
                  refine hK.out _ _ ?_ (fun hHeld1 => ?_)
                  · first | trivial | ((try dsimp only); (exact ⟨(HN.out.2.1).cell 0 rfl, (HN.out.2.1).cell 1 rfl, (HN.out.2.2.1).cell 0 rfl⟩))
                  clear hK K hHeld0
                  try go_frame
                  refine htk 13 rfl ?_
                  try go_frame
                  refine htk 14 rfl ?_
                  try go_frame
                  refine wpAnyH_done (by kernel_rfl) ?_ _
                  go_wp2_with fail
                  refine bodyPost_ret (results_cell_tmp2 rfl _ _ (w.heap.size + 1) _ _ _ rfl HN.out.1 Tryz.underlying56 rfl (by kernel_rfl)) rfl ?_
                  rw [← HP.out]
                  exact ⟨HN.out.2.2.2.1, .inr ⟨HL.out.2.1, by have h1 := HQ.out.1; rw [HL.out.1] at h1; omega, by have h1 := HQ.out.2; have h2 := HN.out.2.2.2.2; omega, WA, wc, GA, gc, PA, pc, by rw [← HN.out.2.2.2.2, ← HL.out.1]; rfl, by rw [← HL.out.1]; exact HM.out.1, by rw [← HM.out.2.2.2.2]; exact HM.out.2.1, HM.out.2.2.1, by rw [← HL.out.1]; exact HM.out.2.2.2.1⟩⟩
                · have d2 : decide ((gs.length : Int) ≤ 100) = false := decide_eq_false q2
                  have HQ := Lib.hid (And.intro q1 q2); clear q1 q2
                  go_upto_region 33 with fail
                  refine wp_region_held_drew (S := (fun w' => w'.cell? ⟨Hb, 0, none⟩ = some (.slice WA ws.length wc) ∧ w'.cell? ⟨Hb, 1, none⟩ = some (.slice GA gs.length gc) ∧ w'.cell? ⟨w.heap.size + 2, 0, none⟩ = some (.slice PA s.cells.length pc))) (by kernel_rfl) ?_ (fun hHeld0 => ?_)
                  · first | trivial | ((try dsimp only); (exact ⟨g0, g1, p0⟩))
                  refine htk 0 rfl ?_
                  try go_frame
                  refine htk 1 rfl ?_
                  try go_frame
                  refine htk 2 rfl ?_
                  try go_frame
                  refine htk 3 rfl ?_
                  try go_frame
                  refine htk 4 rfl ?_
                  try go_frame
                  refine htk 5 rfl ?_
                  try go_frame
                  refine htk 6 rfl ?_
                  try go_frame
                  refine htk 7 rfl ?_
                  try go_frame
                  refine htk 8 rfl ?_
                  try go_frame
                  refine htk 9 rfl ?_
                  try go_frame
                  refine htk 10 rfl ?_
                  try go_frame
                  refine htk 11 rfl ?_
                  try go_frame
                  refine held_call 12 (by kernel_rfl) rfl (fun K hK => ?_)
                  go_simp
                  refine hK.out _ _ ?_ (fun hHeld1 => ?_)
                  · first | trivial | ((try dsimp only); (exact ⟨(HN.out.2.1).cell 0 rfl, (HN.out.2.1).cell 1 rfl, (HN.out.2.2.1).cell 0 rfl⟩))
                  clear hK K hHeld0
                  try go_frame
                  refine htk 13 rfl ?_
                  try go_frame
                  refine htk 14 rfl ?_
                  try go_frame
                  refine wpAnyH_done (by kernel_rfl) ?_ _
                  go_wp2_with fail
                  refine bodyPost_ret (results_cell_tmp2 rfl _ _ (w.heap.size + 1) _ _ _ rfl HN.out.1 Tryz.underlying56 rfl (by kernel_rfl)) rfl ?_
                  rw [← HP.out]
                  exact ⟨HN.out.2.2.2.1, .inl ⟨_, _, _, _, _, _, _, _, _, rfl⟩⟩
              · have d1 : decide ((ws.length : Int) ≤ 2000) = false := decide_eq_false q1
                have HQ := Lib.hid q1; clear q1
                go_upto_region 33 with fail
                refine wp_region_held_drew (S := (fun w' => w'.cell? ⟨Hb, 0, none⟩ = some (.slice WA ws.length wc) ∧ w'.cell? ⟨Hb, 1, none⟩ = some (.slice GA gs.length gc) ∧ w'.cell? ⟨w.heap.size + 2, 0, none⟩ = some (.slice PA s.cells.length pc))) (by kernel_rfl) ?_ (fun hHeld0 => ?_)
                · first | trivial | ((try dsimp only); (exact ⟨g0, g1, p0⟩))
                refine htk 0 rfl ?_
                try go_frame
                refine htk 1 rfl ?_
                try go_frame
                refine htk 2 rfl ?_
                try go_frame
                refine htk 3 rfl ?_
                try go_frame
                refine htk 4 rfl ?_
                try go_frame
                refine htk 5 rfl ?_
                try go_frame
                refine htk 6 rfl ?_
                try go_frame
                refine hsk 7 rfl ?_
                try go_frame
                refine hsk 8 rfl ?_
                try go_frame
                refine hsk 9 rfl ?_
                try go_frame
                refine hsk 10 rfl ?_
                try go_frame
                refine htk 11 rfl ?_
                try go_frame
                refine held_call 12 (by kernel_rfl) rfl (fun K hK => ?_)
                go_simp
                refine hK.out _ _ ?_ (fun hHeld1 => ?_)
                · first | trivial | ((try dsimp only); (exact ⟨(HN.out.2.1).cell 0 rfl, (HN.out.2.1).cell 1 rfl, (HN.out.2.2.1).cell 0 rfl⟩))
                clear hK K hHeld0
                try go_frame
                refine htk 13 rfl ?_
                try go_frame
                refine htk 14 rfl ?_
                try go_frame
                refine wpAnyH_done (by kernel_rfl) ?_ _
                go_wp2_with fail
                refine bodyPost_ret (results_cell_tmp2 rfl _ _ (w.heap.size + 1) _ _ _ rfl HN.out.1 Tryz.underlying56 rfl (by kernel_rfl)) rfl ?_
                rw [← HP.out]
                exact ⟨HN.out.2.2.2.1, .inl ⟨_, _, _, _, _, _, _, _, _, rfl⟩⟩
end Top
end Go.Proofs.YtdlcooplllimeaaGreatDoor
