/- leave.frames: a list of frames of its own. -/
import Derived.Test.YtljdnadejmkaeaaCellsA
import Derived.Test.YtljdnadejmkaeaaTold
import Derived.Deep.RegionHeld3
import Derived.Deep.DeepCutAuto
import Derived.Deep.DrawnRows
namespace Go.Proofs.Ytljdnadejmkaeaa
open Go.RowKit

attribute [local go_sem ↓] Go.wp_at_zero Go.wp_at_succ

def FramesPost (n : Nat) (w : World) (e : Ending) (w' : World) : Prop :=
  ∃ A' c', e = .returned (.slice A' n c') ∧ Below w.heap.size w w'

set_option maxHeartbeats 1600000 in
set_option maxRecDepth 100000 in
theorem frames_any (A : Option Addr) (c B : Nat) (l : List Fr) (w : World) (h : At w B A l) (hB : B ≤ w.heap.size) (hl : l.length * 96 ≤ 140737488355328)
    (hin : ∀ f ∈ l, f.regs.length * 16 ≤ 140737488355328 ∧ f.tries.length * 16 ≤ 140737488355328) :
    Calls Try.prog 101 #[.slice A l.length c] w (FramesPost l.length w) := by
  obtain ⟨rs, hrl, hra, hrr⟩ := At.raws (n := 8) rfl h fr_one
  rw [← hrl]
  rw [← hrl] at hl
  have hrl' := Lib.hid hrl; clear hrl
  have H := Lib.hid h; clear h
  have HR := Lib.hid hrr; clear hrr
  have HI := Lib.hid hin; clear hin
  go_enter Try.func101, Try.ntmps101
  go_wp2_with fail
  refine (cloneFrame_any A c B rs w hra hB (by omega)).mono ?_
  rintro e w1 ⟨A1, c1, rfl, ho1, hb1⟩
  have hs1 := hb1.size
  clear hra
  go_wp2_with fail
  go_loopw [10] (fun i wr => ∃ (k : Nat), k ≤ rs.length ∧ i = .int .i64 k ∧ Hid (∃ rs' : List (Raw 8), rs'.length = rs.length ∧ Own wr w.heap.size 27 A1 c1 rs') ∧ Below w.heap.size w wr ∧ w.heap.size ≤ wr.heap.size) (fun i _ => rs.length - (intOf i).toNat)
  case atStart => exact ⟨0, Nat.zero_le _, rfl, ⟨rs, rfl, ho1⟩, hb1, hs1⟩
  case round =>
    obtain ⟨k, hk, rfl, hkeep, hbl, hsz⟩ := hrel
    clear ho1 hb1 hs1
    by_cases hlt : k < rs.length
    · obtain ⟨b, o, x, A6, c6, A7, c7, rfl, hb, hx, e0, e1, e2, e3, e4, e5, e6, e7, at6, hc6, at7, hc7, -⟩ := (H.out.below (hbl.mono hB)).fr_ (k := k) (by have := hrl'.out; omega)
      have HX := Lib.hid hx
      have hmem := HI.out x (List.mem_of_getElem? hx)
      clear hx
      have h6 := Lib.hid at6; clear at6
      have h7 := Lib.hid at7; clear at7
      have lt5 : b < wr.heap.size := by omega
      go_wp2_with fail
      refine wp_world (fun W => Blk W wr.heap.size 27 #[.int .i64 x.fn, .int .i64 x.at_, .int .i64 x.fto, .int .i64 x.gen, .int .i64 x.self.1, .int .i64 x.self.2, .slice A6 x.regs.length c6, .slice A7 x.tries.length c7] ∧ Below wr.heap.size wr W ∧ wr.heap.size + 1 ≤ W.heap.size) ⟨Blk.new _ _ _, (Below.refl _ _).alloc (Nat.le_refl _) _, by simp⟩ ?_
      rintro W ⟨hF, hblW, hszW⟩
      clear e0 e1 e2 e3 e4 e5 e6 e7
      obtain ⟨rs', hrs', hown⟩ := hkeep.out
      obtain ⟨g1, rfl, hg1, hg1'⟩ := hown.some_ (by omega)
      obtain ⟨old, hold⟩ : ∃ u, rs'[k]? = some u := ⟨_, List.getElem?_eq_getElem (by omega)⟩
      obtain ⟨u6, hu6⟩ : ∃ u, old.cs[6]? = some u := old.has 6 (by decide)
      obtain ⟨u7, hu7⟩ : ∃ u, old.cs[7]? = some u := old.has 7 (by decide)
      have HO := Lib.hid hold; clear hold
      have HW := Lib.hid hown; clear hown
      have HRL := Lib.hid hrs'; clear hrs' hkeep
      have HF := Lib.hid hF
      have f6 := hF.cell 6 rfl
      have f7 := hF.cell 7 rfl
      clear hF
      have hbW : Below w.heap.size w W := hbl.trans (hblW.mono hsz)
      have gne : g1 ≠ wr.heap.size := by omega
      go_region_with (first | (go_at_call 47; refine (cloneVal_any A6 c6 B x.regs _ (by exact (h6.out.below (hblW.mono (by omega))).drew) (by simp; omega) hmem.1).mono ?_; rintro e w1 ⟨A8, c8, rfl, hown1, hb1⟩; have hb1' : Below W.heap.size W w1 := undrew hb1; clear hb1; have HF1 := Lib.hid (HF.out.fresh hb1'); have g6 := HF1.out.cell 6 rfl; have g7 := HF1.out.cell 7 rfl) | (go_at_call 48; go_must (refine (cloneTry_any A7 c7 B x.tries _ (by exact ((h7.out.below (hblW.mono (by omega))).below (hb1'.mono (by omega)))) (by have := hb1'.size; omega) hmem.2).mono ?_; rintro e w2 ⟨A9, c9, rfl, hown2, hb2⟩; have hs1' := hb1'.size; have hs2' := hb2.size; have q0 := (((HW.out.fresh hblW).fresh hb1').fresh hb2); have q1 := q0.frozen (g := g1) rfl (k * 8 + 6); have q2 := q0.frozen (g := g1) rfl (k * 8 + 7); have q3 := q0.raw_cell HO.out hu6; have q4 := q0.raw_cell HO.out hu7)))
      all_goals (go_wp2_with fail; go_roundw)
      all_goals (try (simp [intOf]; omega; done))
      all_goals
        refine ⟨k + 1, by omega, by go_num, ?_, ?_, ?_⟩
        · first
            | (have hown := q0.set_raw2 HO.out (j := 6) (k := 7) (u := .slice A8 x.regs.length c8) (v := .slice A9 x.tries.length c9) (by decide) (by decide) rfl rfl
               exact ⟨_, (List.length_set).trans HRL.out, hown⟩)
            | (have hown := q0.set_raw2 HO.out (j := 7) (k := 6) (v := .slice A8 x.regs.length c8) (u := .slice A9 x.tries.length c9) (by decide) (by decide) rfl rfl
               exact ⟨_, (List.length_set).trans HRL.out, hown⟩)
        · exact ((((hbW.trans (hb1'.mono (by omega))).trans (hb2.mono (by omega)))).setCell hg1 _).setCell hg1 _
        · simp [World.setCell]; omega
    · go_wp2_with fail
      go_ret
      obtain rfl : k = rs.length := by omega
      exact ⟨A1, c1, rfl, hbl⟩

end Go.Proofs.Ytljdnadejmkaeaa
