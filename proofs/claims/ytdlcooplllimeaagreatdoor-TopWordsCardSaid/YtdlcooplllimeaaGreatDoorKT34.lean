/- KT: CdI. -/
import Derived.Test.YtdlcooplllimeaaGreatDoorKT16
import Derived.Test.YtdlcooplllimeaaGreatDoorKT27
/- code: is a function right? -/
namespace Go.Proofs.YtdlcooplllimeaaGreatDoor
open Go.RowKit

attribute [local go_sem ↓] Go.wp_at_zero Go.wp_at_succ

namespace Top
set_option maxHeartbeats 3200000 in
set_option maxRecDepth 100000 in
theorem function_any (FA CA TA KA DA : Option Addr) (nf fc nc cc nt tc nk kc nd dc : Nat) (pa re : Int) (ge : Bool) (B : Nat) (fns : List Fn) (code : List In) (w : World) (hF : At w B FA fns) (hD : At w B DA code) (hn : fns.length = nf) (hcn : code.length = nd) (hB : B ≤ w.heap.size)
    (hnf : nf ≤ maxLen) (hnc : nc ≤ maxLen) (hnt : nt ≤ maxLen) (hnk : nk ≤ maxLen) (hnd : nd ≤ 600) :
    Calls Tryz.prog 70 #[.agg #[.slice FA nf fc, .slice CA nc cc, .slice TA nt tc], .agg #[.int .i64 pa, .int .i64 re, .bool ge, .slice KA nk kc, .slice DA nd dc]] w fun e w' => ∃ b : Bool, e = .returned (.bool b) ∧ (b = true → ∀ i ∈ code, tgt nf i) ∧ Below w.heap.size w w' := by
  have hndm : nd ≤ maxLen := by unfold maxLen; omega
  have H := Lib.hid (And.intro hF (And.intro hD (And.intro hn hcn))); clear hF hD hn hcn
  go_enter Tryz.func70, Tryz.ntmps70
  go_upto_region 2 with fail
  refine wp_world (fun W => Blk W w.heap.size 26 #[.slice FA nf fc, .slice CA nc cc, .slice TA nt tc] ∧ Blk W (w.heap.size + 1) 160 #[.int .i64 pa, .int .i64 re, .bool ge, .slice KA nk kc, .slice DA nd dc] ∧ Blk W (w.heap.size + 2) 211 #[.slice FA nf fc, .slice CA nc cc, .slice TA nt tc, .int .i64 pa, .int .i64 re, .bool ge, .slice KA nk kc, .slice DA nd dc] ∧ Below w.heap.size w W ∧ w.heap.size + 3 ≤ W.heap.size) ⟨((Blk.new _ _ _).alloc _).alloc _, (Blk.at_ _ _ _ (by simp)).alloc _, Blk.at_ _ _ _ (by simp), (((Below.refl _ _).alloc (Nat.le_refl _) _).alloc (by simp) _).alloc (by simp; omega) _, by simp⟩ ?_
  rintro W ⟨hP, hF1, hL, hbW, hsW⟩
  have f0 := hF1.cell 0 (v := .int .i64 pa) rfl
  have f1 := hF1.cell 1 (v := .int .i64 re) rfl
  have f4 := hF1.cell 4 (v := .slice DA nd dc) rfl
  have HW := Lib.hid (And.intro hP (And.intro hF1 (And.intro hL hbW))); clear hP hF1 hL hbW
  by_cases hbad : pa < 0 ∨ re < 1 ∨ re < pa
  · by_cases h1 : pa < 0
    · clear hbad
      go_wp2_with fail
      go_returns
      exact ⟨_, rfl, fun h => (by cases h), HW.out.2.2.2⟩
    have h1' : 0 ≤ pa := by omega
    clear h1
    by_cases h2 : re < 1
    · clear hbad
      go_wp2_with fail
      go_returns
      exact ⟨_, rfl, fun h => (by cases h), HW.out.2.2.2⟩
    have h2' : 1 ≤ re := by omega
    have h3 : re < pa := by omega
    clear h2 hbad
    go_wp2_with fail
    go_returns
    exact ⟨_, rfl, fun h => (by cases h), HW.out.2.2.2⟩
  have h1 : 0 ≤ pa := by omega
  have h2 : 1 ≤ re := by omega
  have h3 : pa ≤ re := by omega
  clear hbad
  go_wp2_with fail
  go_loopg [32] nd (fun gk i wr => ∃ k : Nat, k ≤ nd ∧ gk = nd - k ∧ i = .int .i64 k ∧ Hid (∀ i ∈ code.take k, tgt nf i) ∧ Below W.heap.size W wr)
  case atStart => exact ⟨0, Nat.zero_le _, rfl, rfl, by simp [Hid], Below.refl _ _⟩
  case round =>
    obtain ⟨k, hk, rfl, rfl, hall, hbl⟩ := hrel
    have hsz := hbl.size
    have hbl0 := HW.out.2.2.2.trans (hbl.mono (by omega))
    clear f0 f1 f4
    by_cases hlt : k < nd
    · obtain ⟨b, o, x, rfl, hb, hx, e0, e1, e2, e3, e4, -⟩ := (H.out.2.1.below (hbl0.mono hB)).in_ (k := k) (by have := H.out.2.2.2; omega)
      have hk0 : (0 : Int) ≤ (k : Int) := by omega
      have hk1 : (k : Int) < (nd : Int) := by omega
      have hba : Below wr.heap.size wr (wr.alloc (.cells #[.int .i64 x.op, .int .i64 x.a, .int .i64 x.b, .int .i64 x.c, .int .i64 x.line] 213)) := (Below.refl _ _).alloc (Nat.le_refl _) _
      have hord := order_any FA CA TA KA (some ⟨b, o, none⟩) nf fc nc cc nt tc nk kc nd dc pa re ge B fns k x _ (H.out.1.below ((hbl0.trans (hba.mono (by omega))).mono hB)) H.out.2.2.1 (by simp; omega) hnf hnc hnt hnk hndm
      have hL1 := HW.out.2.2.1.fresh hbl
      have l0 := hL1.cell 0 (v := .slice FA nf fc) rfl
      have l1 := hL1.cell 1 (v := .slice CA nc cc) rfl
      have l2 := hL1.cell 2 (v := .slice TA nt tc) rfl
      have l3 := hL1.cell 3 (v := .int .i64 pa) rfl
      have l4 := hL1.cell 4 (v := .int .i64 re) rfl
      have l5 := hL1.cell 5 (v := .bool ge) rfl
      have l6 := hL1.cell 6 (v := .slice KA nk kc) rfl
      have l7 := hL1.cell 7 (v := .slice (some ⟨b, o, none⟩) nd dc) rfl
      have hs2 : w.heap.size + 2 < wr.heap.size := by omega
      have HX := Lib.hid (And.intro hx (And.intro hord hba)); clear hx hord hba hL1
      go_wp2_with fail
      refine HX.out.2.1.mono ?_
      rintro e w1 ⟨bb, rfl, hq, hb1⟩
      have hbl1 : Below wr.heap.size wr w1 := HX.out.2.2.trans (hb1.mono (by simp))
      have HQ := Lib.hid (And.intro hq hbl1); clear hq hb1 hbl1 l0 l1 l2 l3 l4 l5 l6 l7 e0 e1 e2 e3 e4
      cases bb with
      | true =>
        go_wp2_with fail
        go_roundg (nd - (k + 1))
        case measure => omega
        case rel => exact ⟨k + 1, by omega, rfl, by go_num, by unfold Hid; exact all_stepT hall.out HX.out.1 (HQ.out.1 (by simp)), hbl.trans (HQ.out.2.mono hsz)⟩
      | false =>
        go_wp2_with fail
        go_returns
        exact ⟨_, rfl, fun h => (by cases h), hbl0.trans (HQ.out.2.mono (by omega))⟩
    · have hall2 := hall.out
      rw [List.take_of_length_le (by have := H.out.2.2.2; omega)] at hall2
      have hF2 := HW.out.2.1.fresh hbl
      have g0 := hF2.cell 0 (v := .int .i64 pa) rfl
      have g1 := hF2.cell 1 (v := .int .i64 re) rfl
      have g2 := hF2.cell 2 (v := .bool ge) rfl
      have g3 := hF2.cell 3 (v := .slice KA nk kc) rfl
      have g4 := hF2.cell 4 (v := .slice DA nd dc) rfl
      have htr := tries_any B nd nk kc dc nf pa re ge KA DA code wr (H.out.2.1.below (hbl0.mono hB)) (by omega) H.out.2.2.2 hnd hall2
      have HT := Lib.hid (And.intro htr hall2); clear htr hall2 hF2 hall
      go_wp2_with fail
      refine HT.out.1.mono ?_
      rintro e w1 ⟨hb1, O, S, co, cs, ok, L, seen, rfl, -⟩
      have HQ := Lib.hid hb1; clear hb1 g0 g1 g2 g3 g4
      go_wp2_with fail
      go_returns
      exact ⟨_, rfl, fun _ => HT.out.2, hbl0.trans (HQ.out.mono (by omega))⟩
end Top
end Go.Proofs.YtdlcooplllimeaaGreatDoor
