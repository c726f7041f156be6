/- leave.own: cells of its own; what raw rows of cells say ('Lites'). -/
import Derived.Test.YtljdnadejmkaeaaFramesA
namespace Go.Proofs.Ytljdnadejmkaeaa
open Go.RowKit

attribute [local go_sem ↓] Go.wp_at_zero Go.wp_at_succ

/-- of a cell, what is compared: kind, number, values, how many frames -/
structure Lite where
  kind : Int
  num : Int
  vals : List (Int × Int)
  fl : Nat
def lite (x : Ce) : Lite := ⟨x.kind, x.num, x.vals, x.frames.length⟩

def LiteIs (w : World) (A : Option Addr) (r : Raw 4) (x : Lite) : Prop :=
  ∃ va vc fa fc, r.cs = [.int .i64 x.kind, .int .i64 x.num, .slice va x.vals.length vc, .slice fa x.fl fc] ∧ At w w.heap.size va x.vals ∧ (x.vals = [] ∨ ∀ g, rowOf A = some g → rowOf va ≠ some g) ∧ x.vals.length ≤ 9223372036854775807
def Lites (w : World) (A : Option Addr) (rs : List (Raw 4)) (xs : List Lite) : Prop :=
  rs.length = xs.length ∧ ∀ (i : Nat) (r : Raw 4) (x : Lite), rs[i]? = some r → xs[i]? = some x → LiteIs w A r x

theorem LiteIs.keep {w w' : World} {A : Option Addr} {r : Raw 4} {x : Lite} (h : LiteIs w A r x) (hs : w.heap.size ≤ w'.heap.size) (hk : ∀ p : Addr, p.block < w.heap.size → (∀ g, rowOf A = some g → p.block ≠ g) → w'.cell? p = w.cell? p) : LiteIs w' A r x := by
  obtain ⟨va, vc, fa, fc, h1, h2, h3, h4⟩ := h
  refine ⟨va, vc, fa, fc, h1, ?_, h3, h4⟩
  rcases h3 with h3 | h3
  · rw [h3]; exact At.nil_
  · intro i y hy
    obtain ⟨b, o, cs, rfl, hb, hc, hr⟩ := h2 i y hy
    exact ⟨b, o, cs, rfl, by omega, hc.keep fun q hq => hk q (by omega) (fun g hg e => h3 g hg (by simp [rowOf, ← e, hq])), hr⟩
theorem Lites.keep {w w' : World} {A : Option Addr} {rs : List (Raw 4)} {xs : List Lite} (h : Lites w A rs xs) (hs : w.heap.size ≤ w'.heap.size) (hk : ∀ p : Addr, p.block < w.heap.size → (∀ g, rowOf A = some g → p.block ≠ g) → w'.cell? p = w.cell? p) : Lites w' A rs xs :=
  ⟨h.1, fun i r x hr hx => (h.2 i r x hr hx).keep hs hk⟩
theorem Lites.fresh {w w' : World} {A : Option Addr} {rs : List (Raw 4)} {xs : List Lite} (h : Lites w A rs xs) (hb : Below w.heap.size w w') : Lites w' A rs xs := h.keep hb.size fun p hp _ => hb.cell hp
theorem Lites.setCell {w : World} {g o : Nat} {rs : List (Raw 4)} {xs : List Lite} (h : Lites w (some ⟨g, o, none⟩) rs xs) (i : Nat) (u : Value) : Lites (w.setCell ⟨g, i, none⟩ u) (some ⟨g, o, none⟩) rs xs :=
  h.keep (by simp [World.setCell]) fun p hp hn => World.cell?_setCell_other w _ p u (fun e => hn g rfl (by rw [← e]))
theorem Lites.set_ {w : World} {A : Option Addr} {rs : List (Raw 4)} {xs : List Lite} (h : Lites w A rs xs) (k : Nat) {r : Raw 4} {x : Lite} (hx : LiteIs w A r x) : Lites w A (rs.set k r) (xs.set k x) := by
  refine ⟨by rw [List.length_set, List.length_set]; exact h.1, fun i r' x' hr' hx' => ?_⟩
  by_cases hik : k = i
  · subst hik
    have h1 := (List.getElem?_eq_some_iff.1 hr').1
    have h2 := (List.getElem?_eq_some_iff.1 hx').1
    rw [List.length_set] at h1 h2
    rw [List.getElem?_set_self h1] at hr'
    rw [List.getElem?_set_self h2] at hx'
    injection hr' with hr'; injection hx' with hx'
    subst hr' hx'
    exact hx
  · rw [List.getElem?_set_ne hik] at hr' hx'
    exact h.2 i r' x' hr' hx'
theorem Lites.same {w : World} {A : Option Addr} {rs : List (Raw 4)} {xs : List Lite} (h : Lites w A rs xs) (k : Nat) {r : Raw 4} {x : Lite} (hx : LiteIs w A r x) (hxs : xs[k]? = some x) : Lites w A (rs.set k r) xs := by
  have h2 := h.set_ k hx
  have : xs.set k x = xs := by
    have hk := (List.getElem?_eq_some_iff.1 hxs)
    obtain ⟨h1, h3⟩ := hk
    rw [← h3]; exact List.set_getElem_self h1
  rwa [this] at h2

/-- raw copies of cells that came in -/
theorem lites_raw {w : World} {B : Nat} {A : Option Addr} {rs : List (Raw 4)} {l : List Ce} (hl : rs.length = l.length) (h : ∀ (i : Nat) (r : Raw 4) (x : Ce), rs[i]? = some r → l[i]? = some x → Enc.rd w B r.cs x) (hB : B ≤ w.heap.size) (hA : ∀ g, rowOf A = some g → B ≤ g) : Lites w A rs (l.map lite) := by
  refine ⟨by rw [List.length_map]; exact hl, fun i r x hr hx => ?_⟩
  rw [List.getElem?_map] at hx
  obtain ⟨y, hy, rfl⟩ := Option.map_eq_some_iff.1 hx
  obtain ⟨c2, c3, h1, -, -, ⟨va, vc, e2, hb1, hb2, -, at2⟩, ⟨fa, fc, e3, -⟩⟩ := h i r y hr hy
  injection e2 with e2; injection e3 with e3; subst e2 e3
  have hbd : y.vals.length ≤ 9223372036854775807 := by simp only [maxLen] at hb2; omega
  refine ⟨va, vc, fa, fc, h1, at2.more hB, ?_, hbd⟩
  show y.vals = [] ∨ _
  rcases hv : y.vals with _ | ⟨z, zs⟩
  · exact .inl rfl
  · obtain ⟨b, o, cs, rfl, hb, -⟩ := at2 0 z (by rw [hv]; rfl)
    exact .inr fun g hg e => by have := hA g hg; simp [rowOf] at e; omega

def OwnPost (l : List Ce) (w : World) (e : Ending) (w' : World) : Prop :=
  ∃ A' c' rs, e = .returned (.slice A' l.length c') ∧ Own w' w.heap.size 52 A' c' rs ∧ Lites w' A' rs (l.map lite) ∧ Below w.heap.size w w'

/-- what append bears, of cells -/
def CellsFit (l : List Ce) : Prop := l.length * 64 ≤ 140737488355328 ∧ ∀ x ∈ l, x.vals.length * 16 ≤ 140737488355328 ∧ x.frames.length * 96 ≤ 140737488355328 ∧ ∀ f ∈ x.frames, f.regs.length * 16 ≤ 140737488355328 ∧ f.tries.length * 16 ≤ 140737488355328

set_option maxHeartbeats 1600000 in
set_option maxRecDepth 100000 in
theorem own_any (A : Option Addr) (c B : Nat) (l : List Ce) (w : World) (h : At w B A l) (hB : B ≤ w.heap.size) (hf : CellsFit l) :
    Calls Try.prog 50 #[.slice A l.length c] w (OwnPost l w) := by
  obtain ⟨rs, hrl, hra, hrr⟩ := At.raws (n := 4) rfl h ce_one
  obtain ⟨hl, hin⟩ := hf
  have H := Lib.hid h; clear h
  have HR := Lib.hid hrr; clear hrr
  have HI := Lib.hid hin; clear hin
  unfold OwnPost
  rw [← hrl]
  rw [← hrl] at hl
  have hrl' := Lib.hid hrl; clear hrl
  go_enter Try.func50, Try.ntmps50
  go_wp2_with fail
  refine (cloneCell_any A c B rs w hra hB (by omega)).mono ?_
  rintro e w1 ⟨A1, c1, rfl, ho1, hb1⟩
  have hs1 := hb1.size
  have hL1 : Lites w1 A1 rs (l.map lite) := (lites_raw hrl'.out HR.out hB (fun g hg => by have := (ho1.lt g hg).1; omega)).fresh hb1
  clear hra
  go_wp2_with fail
  go_loopw [10] (fun i wr => ∃ (k : Nat), k ≤ rs.length ∧ i = .int .i64 k ∧ Hid (∃ rs' : List (Raw 4), rs'.length = rs.length ∧ Own wr w.heap.size 52 A1 c1 rs' ∧ Lites wr A1 rs' (l.map lite)) ∧ Below w.heap.size w wr ∧ w.heap.size ≤ wr.heap.size) (fun i _ => rs.length - (intOf i).toNat)
  case atStart => exact ⟨0, Nat.zero_le _, rfl, ⟨rs, rfl, ho1, hL1⟩, hb1, hs1⟩
  case round =>
    obtain ⟨k, hk, rfl, hkeep, hbl, hsz⟩ := hrel
    clear ho1 hb1 hs1 hL1
    by_cases hlt : k < rs.length
    · obtain ⟨b, o, x, A6, c6, A7, c7, rfl, hb, hx, e0, e1, e2, e3, at6, hc6, at7, hc7, -⟩ := (H.out.below (hbl.mono hB)).ce_ (k := k) (by have := hrl'.out; omega)
      have HX := Lib.hid hx
      obtain ⟨hm1, hm2, hm3⟩ := HI.out x (List.mem_of_getElem? hx)
      have HM := Lib.hid hm3; clear hm3
      clear hx
      have h6 := Lib.hid at6; clear at6
      have h7 := Lib.hid at7; clear at7
      have lt5 : b < wr.heap.size := by omega
      go_wp2_with fail
      refine wp_world (fun W => Blk W wr.heap.size 52 #[.int .i64 x.kind, .int .i64 x.num, .slice A6 x.vals.length c6, .slice A7 x.frames.length c7] ∧ Below wr.heap.size wr W ∧ wr.heap.size + 1 ≤ W.heap.size) ⟨Blk.new _ _ _, (Below.refl _ _).alloc (Nat.le_refl _) _, by simp⟩ ?_
      rintro W ⟨hF, hblW, hszW⟩
      clear e0 e1 e2 e3
      obtain ⟨rs', hrs', hown, hL⟩ := hkeep.out
      obtain ⟨g1, rfl, hg1, hg1'⟩ := hown.some_ (by omega)
      obtain ⟨old, hold⟩ : ∃ u, rs'[k]? = some u := ⟨_, List.getElem?_eq_getElem (by omega)⟩
      obtain ⟨u6, hu6⟩ : ∃ u, old.cs[2]? = some u := old.has 2 (by decide)
      obtain ⟨u7, hu7⟩ : ∃ u, old.cs[3]? = some u := old.has 3 (by decide)
      have HO := Lib.hid hold; clear hold
      have HW := Lib.hid (And.intro hown hL); clear hown hL
      have HRL := Lib.hid hrs'; clear hrs' hkeep
      have HF := Lib.hid hF
      have f6 := hF.cell 2 rfl
      have f7 := hF.cell 3 rfl
      clear hF
      have hbW : Below w.heap.size w W := hbl.trans (hblW.mono hsz)
      have gne : g1 ≠ wr.heap.size := by omega
      go_region_with (first | (go_at_call 47; refine (cloneVal_any A6 c6 B x.vals _ (by exact (h6.out.below (hblW.mono (by omega))).drew) (by simp; omega) hm1).mono ?_; rintro e w1 ⟨A8, c8, rfl, hown1, hb1⟩; have hb1' : Below W.heap.size W w1 := undrew hb1; clear hb1; have HF1 := Lib.hid (HF.out.fresh hb1'); have g6 := HF1.out.cell 2 rfl; have g7 := HF1.out.cell 3 rfl) | (go_at_call 101; go_must (refine (frames_any A7 c7 B x.frames _ (by exact ((h7.out.below (hblW.mono (by omega))).below (hb1'.mono (by omega)))) (by have := hb1'.size; omega) hm2 HM.out).mono ?_; rintro e w2 ⟨A9, c9, rfl, hb2⟩; have hs1' := hb1'.size; have hs2' := hb2.size; have q0 := (((HW.out.1.fresh hblW).fresh hb1').fresh hb2); have q1 := q0.frozen (g := g1) rfl (k * 4 + 2); have q2 := q0.frozen (g := g1) rfl (k * 4 + 3); have q3 := q0.raw_cell HO.out hu6; have q4 := q0.raw_cell HO.out hu7)))
      all_goals (go_wp2_with fail; go_roundw)
      all_goals (try (simp [intOf]; omega; done))
      all_goals
        have hLw := ((HW.out.2.fresh hblW).fresh hb1').fresh hb2
        have hlx : (l.map lite)[k]? = some (lite x) := by rw [List.getElem?_map, HX.out]; rfl
        obtain ⟨va, vc, fa, fc, hcs, -, -⟩ := hLw.2 k old _ HO.out hlx
        have hok := h6.out.ok_
        have hA8 : ∀ g, rowOf A8 = some g → W.heap.size ≤ g := fun g hg => (hown1.lt g hg).1
        have hat : At w2 w2.heap.size A8 x.vals := ((hown1.at_ hok).below hb2).more hs2'
        have hnew : ∀ r : Raw 4, r.cs = [.int .i64 x.kind, .int .i64 x.num, .slice A8 x.vals.length c8, .slice A9 x.frames.length c9] → LiteIs w2 (some ⟨g1, 0, none⟩) r (lite x) := fun r hr =>
          ⟨A8, c8, A9, c9, hr, hat, .inr fun g hg e => by have := hA8 g e; simp [rowOf] at hg; omega, by show x.vals.length ≤ _; omega⟩
        refine ⟨k + 1, by omega, by go_num, ?_, ?_, ?_⟩
        · first
            | (have hown := q0.set_raw2 HO.out (j := 2) (k := 3) (u := .slice A8 x.vals.length c8) (v := .slice A9 x.frames.length c9) (by decide) (by decide) rfl rfl
               exact ⟨_, (List.length_set).trans HRL.out, hown, ((hLw.same k (hnew _ (by simp [Raw.set, hcs, lite])) hlx).setCell _ _).setCell _ _⟩)
            | (have hown := q0.set_raw2 HO.out (j := 3) (k := 2) (v := .slice A8 x.vals.length c8) (u := .slice A9 x.frames.length c9) (by decide) (by decide) rfl rfl
               exact ⟨_, (List.length_set).trans HRL.out, hown, ((hLw.same k (hnew _ (by simp [Raw.set, hcs, lite])) hlx).setCell _ _).setCell _ _⟩)
        · exact ((((hbW.trans (hb1'.mono (by omega))).trans (hb2.mono (by omega)))).setCell hg1 _).setCell hg1 _
        · simp [World.setCell]; omega
    · go_wp2_with fail
      go_ret
      obtain rfl : k = rs.length := by omega
      obtain ⟨rs', hrs', hown, hL⟩ := hkeep.out
      exact ⟨A1, c1, rs', by simp, hown, hL, hbl⟩

end Go.Proofs.Ytljdnadejmkaeaa
