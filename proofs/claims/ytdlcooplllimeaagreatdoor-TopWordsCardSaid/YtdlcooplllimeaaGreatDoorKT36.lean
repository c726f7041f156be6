/- KT: StcA, StcB, StcC, StcD, StcE, StcT. -/
import Derived.Test.YtdlcooplllimeaaGreatDoorKT1
import Derived.Test.YtdlcooplllimeaaGreatDoorKT16
import Derived.Test.YtdlcooplllimeaaGreatDoorKT32
import Derived.Test.YtdlcooplllimeaaGreatDoorKT35
/- state: one that looks at a state; a cell of a kind. -/
namespace Go.Proofs.YtdlcooplllimeaaGreatDoor
open Go.RowKit

attribute [local go_sem ↓] Go.wp_at_zero Go.wp_at_succ

namespace Top
/-- tables of tries and ways that fit a program -/
def TabOk (pg : Pg) (X : List (List (List (Int × Int)))) (Y : List (List Bool)) : Prop := X.length = pg.fns.length ∧ Y.length = pg.fns.length ∧ ∀ (k : Nat) f x y, pg.fns[k]? = some f → X[k]? = some x → Y[k]? = some y → x.length = f.code.length ∧ y.length = f.code.length ∧ ∀ l ∈ x, l.length ≤ 20
/-- one that looks: at block L; the state at block p; the map of generators at block M -/
def LkA (w : World) (L p M : Nat) (pg : Pg) (s : Stt) : Prop :=
  ∃ (FA CA TA XA YA : Option Addr) (fc cc tc xc yc : Nat) (X : List (List (List (Int × Int)))) (Y : List (List Bool)),
    Blk w L 104 #[.slice FA pg.fns.length fc, .slice CA pg.consts.length cc, .slice TA pg.texts.length tc, .pointer (some ⟨p, 0, none⟩), .slice XA pg.fns.length xc, .slice YA pg.fns.length yc, .map (some M)] ∧
    StA w p s ∧ At w w.heap.size FA pg.fns ∧ At w w.heap.size TA pg.texts ∧ At w w.heap.size XA X ∧ At w w.heap.size YA Y ∧ TabOk pg X Y
section
variable {w w' : World} {L p M : Nat} {pg : Pg} {s : Stt}
theorem LkA.fresh (h : LkA w L p M pg s) (hb : Below w.heap.size w w') : LkA w' L p M pg s := by
  obtain ⟨FA, CA, TA, XA, YA, fc, cc, tc, xc, yc, X, Y, h1, h2, h3, h4, h5, h6, h7⟩ := h
  have hs := hb.size
  exact ⟨FA, CA, TA, XA, YA, fc, cc, tc, xc, yc, X, Y, h1.fresh hb, h2.fresh hb, (h3.below hb).more hs, (h4.below hb).more hs, (h5.below hb).more hs, (h6.below hb).more hs, h7⟩
theorem LkA.lt (h : LkA w L p M pg s) : L < w.heap.size := by
  obtain ⟨FA, CA, TA, XA, YA, fc, cc, tc, xc, yc, X, Y, h1, -⟩ := h; exact h1.lt
theorem LkA.st (h : LkA w L p M pg s) : StA w p s := by
  obtain ⟨FA, CA, TA, XA, YA, fc, cc, tc, xc, yc, X, Y, h1, h2, -⟩ := h; exact h2
theorem StA.mapt {M : Nat} (h : StA w p s) (hm : Mapt M w w') : StA w' p s := by
  obtain ⟨CA, SA, TA, HA, EA, DA, cc, sc, tc, hc, ec, dc, h1, h2, h3, h4, h5, h6, h7⟩ := h
  have hs := hm.size
  have hr := Nat.le_refl w.heap.size
  exact ⟨CA, SA, TA, HA, EA, DA, cc, sc, tc, hc, ec, dc, hm.blk h1, (hm.at_ h2 hr).more hs, (hm.at_ h3 hr).more hs, (hm.at_ h4 hr).more hs, (hm.at_ h5 hr).more hs, (hm.at_ h6 hr).more hs, (hm.at_ h7 hr).more hs⟩
theorem LkA.mapt (h : LkA w L p M pg s) (hm : Mapt M w w') : LkA w' L p M pg s := by
  obtain ⟨FA, CA, TA, XA, YA, fc, cc, tc, xc, yc, X, Y, h1, h2, h3, h4, h5, h6, h7⟩ := h
  have hs := hm.size
  have hr := Nat.le_refl w.heap.size
  exact ⟨FA, CA, TA, XA, YA, fc, cc, tc, xc, yc, X, Y, hm.blk h1, h2.mapt hm, (hm.at_ h3 hr).more hs, (hm.at_ h4 hr).more hs, (hm.at_ h5 hr).more hs, (hm.at_ h6 hr).more hs, h7⟩
end
theorem Fits_any (w : World) (p : Nat) (s : Stt) (k n : Int) (h : StA w p s) (hk : I64 k) (hn : I64 n) :
    Calls Tryz.prog 136 #[.pointer (some ⟨p, 0, none⟩), .agg #[.int .i64 k, .int .i64 n]] w fun e w' => ∃ b : Bool, e = .returned (.bool b) ∧ (b = true → fitsS s (k, n)) ∧ Below w.heap.size w w' := by
  have hplt := h.lt
  have hb0 : Below w.heap.size w (w.alloc (.cells #[.int .i64 k, .int .i64 n] 48)) := (Below.refl _ _).alloc (Nat.le_refl _) _
  have hf := fits_any w p s k n h hk hn
  have hf2 := fits_any _ p s k n (h.fresh hb0) hk hn
  have H := Lib.hid (And.intro hf (And.intro hf2 hb0)); clear hf hf2 hb0 h
  go_enter Tryz.func136, Tryz.ntmps136
  go_wp2_with fail
  first
    | (refine H.out.1.mono ?_
       rintro e w1 ⟨b, rfl, hb, hb1⟩
       have HB := Lib.hid (And.intro hb hb1); clear hb hb1
       go_wp2_with fail
       go_returns
       exact ⟨_, rfl, HB.out.1, HB.out.2⟩)
    | (refine H.out.2.1.mono ?_
       rintro e w1 ⟨b, rfl, hb, hb1⟩
       have HB := Lib.hid (And.intro hb hb1); clear hb hb1
       go_wp2_with fail
       go_returns
       exact ⟨_, rfl, HB.out.1, H.out.2.2.trans (HB.out.2.mono (by simp))⟩)
theorem Blk.set4 {w : World} {g : Nat} {t : TypeId} {a0 a1 a2 a3 : Value} (h : Blk w g t #[a0, a1, a2, a3]) (x0 x1 x2 x3 : Value) :
    Blk ((((w.setCell ⟨g, 0, none⟩ x0).setCell ⟨g, 1, none⟩ x1).setCell ⟨g, 2, none⟩ x2).setCell ⟨g, 3, none⟩ x3) g t #[x0, x1, x2, x3] := by
  have := (((h.set_ 0 x0).set_ 1 x1).set_ 2 x2).set_ 3 x3
  simpa using this
theorem below_set4 {B : Nat} {a w : World} (h : Below B a w) {g : Nat} (hg : B ≤ g) (x0 x1 x2 x3 : Value) : Below B a ((((w.setCell ⟨g, 0, none⟩ x0).setCell ⟨g, 1, none⟩ x1).setCell ⟨g, 2, none⟩ x2).setCell ⟨g, 3, none⟩ x3) :=
  (((h.setCell (p := ⟨g, 0, none⟩) hg x0).setCell (p := ⟨g, 1, none⟩) hg x1).setCell (p := ⟨g, 2, none⟩) hg x2).setCell (p := ⟨g, 3, none⟩) hg x3
theorem Blk.far4 {w : World} {g k : Nat} {t : TypeId} {cs : Array Value} (h : Blk w k t cs) (hk : k ≠ g) (x0 x1 x2 x3 : Value) : Blk ((((w.setCell ⟨g, 0, none⟩ x0).setCell ⟨g, 1, none⟩ x1).setCell ⟨g, 2, none⟩ x2).setCell ⟨g, 3, none⟩ x3) k t cs :=
  (((h.far (p := ⟨g, 0, none⟩) hk x0).far (p := ⟨g, 1, none⟩) hk x1).far (p := ⟨g, 2, none⟩) hk x2).far (p := ⟨g, 3, none⟩) hk x3
def isC (s : Stt) (v : Int × Int) (kind : Int) (num : Int) : Prop := v.1 = 5 ∧ ∃ (m : Nat) (c : Ce), v.2 = (m : Int) ∧ s.cells[m]? = some c ∧ c.kind = kind ∧ c.num = num
def LcPost (s : Stt) (k n kind : Int) (w : World) (e : Ending) (w' : World) : Prop := ∃ (a m : Int) (A1 A2 : Option Addr) (n1 c1 n2 c2 : Nat) (b : Bool), e = .returned (.tuple #[.agg #[.int .i64 a, .int .i64 m, .slice A1 n1 c1, .slice A2 n2 c2], .bool b]) ∧ (b = true → isC s (k, n) kind m) ∧ Below w.heap.size w w'
set_option maxHeartbeats 1600000 in
set_option maxRecDepth 100000 in
theorem lcell_any (w : World) (L p M : Nat) (pg : Pg) (s : Stt) (k n kind : Int) (h : LkA w L p M pg s) (_hcl : s.cells.length ≤ 300) :
    Calls Tryz.prog 137 #[.pointer (some ⟨L, 0, none⟩), .agg #[.int .i64 k, .int .i64 n], .int .i64 kind] w (LcPost s k n kind w) := by
  obtain ⟨P, hP⟩ : ∃ P, LcPost s k n kind w = P := ⟨_, rfl⟩
  have HP := Lib.hid hP; rw [hP]; clear hP
  have hLlt := h.lt
  have hplt := h.st.lt
  obtain ⟨FA, CA, TA, XA, YA, fc, cc, tc, xc, yc, X, Y, h1, h2, -⟩ := h
  obtain ⟨SA, q2, q3, q4, q5, q6, sc, r2, r3, r4, r5, r6, k1, k2, -⟩ := h2
  have l3 := h1.cell 3 (v := .pointer (some ⟨p, 0, none⟩)) rfl
  have s0 := k1.cell 0 (v := .slice SA s.cells.length sc) rfl
  have H := Lib.hid k2; clear h1 k1 k2
  have hz : ∀ W : World, Below w.heap.size w W → P (.returned (.tuple #[.agg #[.int .i64 0, .int .i64 0, .slice none 0 0, .slice none 0 0], .bool false])) W := by
    intro W hW
    rw [← HP.out]
    exact ⟨0, 0, none, none, 0, 0, 0, 0, false, rfl, fun h => (by cases h), hW⟩
  have HZ := Lib.hid hz; clear hz
  by_cases h5 : k = 5
  · subst h5
    by_cases h0 : n < 0
    · have d0 : decide (n < 0) = true := decide_eq_true h0
      clear h0
      go_enter Tryz.func137, Tryz.ntmps137
      go_upto_region 1 with fail
      go_quiet (fail)
      go_upto_region 2 with fail
      refine wp_world (fun W => Blk W (w.heap.size + 1) 46 #[.int .i64 0, .int .i64 0, .slice none 0 0, .slice none 0 0] ∧ Below w.heap.size w W) ⟨(Blk.at_ _ _ _ (by simp)).drewN _, below_drewN (((Below.refl _ _).alloc (Nat.le_refl _) _).alloc (by simp) _) _⟩ ?_
      rintro W ⟨hC, hbW⟩
      have HC := Lib.hid (And.intro hC hbW); clear hC hbW
      go_wp2_with (refine wpList_st rfl 46 (.tmp 6) (.tmp 45) rfl (w.heap.size + 1) rfl rfl HC.out.1 (by kernel_rfl) rfl rfl ?_)
      refine bodyPost_ret (results_cell_tmp rfl _ _ (w.heap.size + 1) _ _ _ rfl HC.out.1.setRow Tryz.underlying46 rfl (by kernel_rfl)) rfl ?_
      exact HZ.out _ (bel_setRow HC.out.2 (by omega) _)
    have d0 : decide (n < 0) = false := decide_eq_false h0
    obtain ⟨m, rfl⟩ : ∃ m : Nat, n = m := ⟨n.toNat, by omega⟩
    clear h0
    by_cases hl : s.cells.length ≤ m
    · have dl : decide (s.cells.length ≤ m) = true := decide_eq_true hl
      have dl2 : s.cells.length ≤ m := hl
      clear hl
      go_enter Tryz.func137, Tryz.ntmps137
      go_upto_region 1 with fail
      go_quiet (fail)
      go_upto_region 2 with fail
      refine wp_world (fun W => Blk W (w.heap.size + 1) 46 #[.int .i64 0, .int .i64 0, .slice none 0 0, .slice none 0 0] ∧ Below w.heap.size w W) ⟨(Blk.at_ _ _ _ (by simp)).drewN _, below_drewN (((Below.refl _ _).alloc (Nat.le_refl _) _).alloc (by simp) _) _⟩ ?_
      rintro W ⟨hC, hbW⟩
      have HC := Lib.hid (And.intro hC hbW); clear hC hbW
      go_wp2_with (refine wpList_st rfl 46 (.tmp 6) (.tmp 45) rfl (w.heap.size + 1) rfl rfl HC.out.1 (by kernel_rfl) rfl rfl ?_)
      refine bodyPost_ret (results_cell_tmp rfl _ _ (w.heap.size + 1) _ _ _ rfl HC.out.1.setRow Tryz.underlying46 rfl (by kernel_rfl)) rfl ?_
      exact HZ.out _ (bel_setRow HC.out.2 (by omega) _)
    have dl : decide (s.cells.length ≤ m) = false := decide_eq_false hl
    have m0 : (0 : Int) ≤ (m : Int) := by omega
    have m1 : (m : Int) < (s.cells.length : Int) := by omega
    obtain ⟨b, o, c, VA, vc, RA, rc, rfl, hbb, hx, e0, e1, e2, e3, -⟩ := H.out.ce_ (k := m) (by omega)
    by_cases hk : c.kind = kind
    · have dk : (c.kind != kind) = false := by rw [hk]; simp
      have dk2 : (c.kind == kind) = true := by rw [hk]; exact beq_self_eq_true kind
      have HX := Lib.hid (And.intro hx hk); clear hx hk hl
      go_enter Tryz.func137, Tryz.ntmps137
      go_upto_region 1 with fail
      go_quiet (fail)
      go_upto_region 3 with fail
      refine wp_world (fun W => Blk W (w.heap.size + 1) 46 #[.int .i64 0, .int .i64 0, .slice none 0 0, .slice none 0 0] ∧ Blk W w.heap.size 48 #[.int .i64 5, .int .i64 m] ∧ Below w.heap.size w W) ⟨(Blk.at_ _ _ _ (by simp)).drewN _, ((Blk.new _ _ _).alloc _).drewN _, below_drewN (((Below.refl _ _).alloc (Nat.le_refl _) _).alloc (by simp) _) _⟩ ?_
      rintro W ⟨hC, hV, hbW⟩
      have keep : ∀ Z : World, Below w.heap.size w Z → Z.cell? ⟨L, 3, none⟩ = some (.pointer (some ⟨p, 0, none⟩)) ∧ Z.cell? ⟨p, 0, none⟩ = some (.slice (some ⟨b, o, none⟩) s.cells.length sc) ∧ Z.cell? ⟨b, o + m * 4, none⟩ = some (.int .i64 c.kind) ∧ Z.cell? ⟨b, o + m * 4 + 1, none⟩ = some (.int .i64 c.num) ∧ Z.cell? ⟨b, o + m * 4 + 2, none⟩ = some (.slice VA c.vals.length vc) ∧ Z.cell? ⟨b, o + m * 4 + 3, none⟩ = some (.slice RA c.frames.length rc) :=
        fun Z hZ => ⟨(hZ.cell (p := ⟨L, 3, none⟩) hLlt).trans l3, (hZ.cell (p := ⟨p, 0, none⟩) hplt).trans s0, (hZ.cell (p := ⟨b, o + m * 4, none⟩) hbb).trans e0, (hZ.cell (p := ⟨b, o + m * 4 + 1, none⟩) hbb).trans e1, (hZ.cell (p := ⟨b, o + m * 4 + 2, none⟩) hbb).trans e2, (hZ.cell (p := ⟨b, o + m * 4 + 3, none⟩) hbb).trans e3⟩
      have zC0 := hC.cell 0 (v := .int .i64 0) rfl
      have zC1 := hC.cell 1 (v := .int .i64 0) rfl
      have zC2 := hC.cell 2 (v := .slice none 0 0) rfl
      have zC3 := hC.cell 3 (v := .slice none 0 0) rfl
      have zF0 := hC.frozen 0
      have zF1 := hC.frozen 1
      have zF2 := hC.frozen 2
      have zF3 := hC.frozen 3
      have hC4 := (Blk.set4 hC (.int .i64 c.kind) (.int .i64 c.num) (.slice VA c.vals.length vc) (.slice RA c.frames.length rc)).drew
      have hb4 := (below_set4 hbW (g := w.heap.size + 1) (by omega) (.int .i64 c.kind) (.int .i64 c.num) (.slice VA c.vals.length vc) (.slice RA c.frames.length rc)).drew
      have hV4 := (Blk.far4 hV (g := w.heap.size + 1) (by omega) (.int .i64 c.kind) (.int .i64 c.num) (.slice VA c.vals.length vc) (.slice RA c.frames.length rc)).drew
      have KP := Lib.hid (And.intro keep (And.intro hC (And.intro hV (And.intro hbW (And.intro hC4 (And.intro hb4 hV4)))))); clear keep hC hV hbW l3 s0 e0 e1 e2 e3 hC4 hb4 hV4
      refine wp_region_held_drew (S := (fun w' => w'.cell? ⟨w.heap.size, 1, none⟩ = some (.int .i64 m) ∧ w'.cell? ⟨L, 3, none⟩ = some (.pointer (some ⟨p, 0, none⟩)) ∧ w'.cell? ⟨p, 0, none⟩ = some (.slice (some ⟨b, o, none⟩) s.cells.length sc) ∧ w'.cell? ⟨b, o + m * 4, none⟩ = some (.int .i64 c.kind) ∧ w'.cell? ⟨b, o + m * 4 + 1, none⟩ = some (.int .i64 c.num) ∧ w'.cell? ⟨b, o + m * 4 + 2, none⟩ = some (.slice VA c.vals.length vc) ∧ w'.cell? ⟨b, o + m * 4 + 3, none⟩ = some (.slice RA c.frames.length rc))) (by kernel_rfl) ?_ (fun hHeld0 => ?_)
      · first | trivial | ((try dsimp only); (exact ⟨KP.out.2.2.1.drew.cell 1 rfl, KP.out.1 _ KP.out.2.2.2.1.drew⟩))
      refine htk 0 rfl ?_
      try go_frame
      refine htk 1 rfl ?_
      try go_frame
      refine htk 2 rfl ?_
      try go_frame
      refine htk 3 rfl ?_
      try go_frame
      refine htk 4 rfl ?_
      try go_frame
      refine htk 5 rfl ?_
      try go_frame
      refine htk 6 rfl ?_
      try go_frame
      refine htk 7 rfl ?_
      try go_frame
      refine htk 8 rfl ?_
      try go_frame
      refine htk 9 rfl ?_
      try go_frame
      refine htk 10 rfl ?_
      try go_frame
      refine held_call 11 (by kernel_rfl) rfl (fun K hK => ?_)
      go_simp
      refine hK.out _ _ ?_ (fun hHeld1 => ?_)
      · first | trivial | ((try dsimp only); (exact ⟨KP.out.2.2.2.2.2.2.cell 1 rfl, KP.out.1 _ KP.out.2.2.2.2.2.1⟩))
      clear hK K hHeld0
      try go_frame
      refine htk 12 rfl ?_
      try go_frame
      refine wpAnyH_done (by kernel_rfl) ?_ _
      go_wp2_with fail
      refine bodyPost_ret (results_cell_tmp rfl _ _ (w.heap.size + 1) _ _ _ rfl KP.out.2.2.2.2.1 Tryz.underlying46 rfl (by kernel_rfl)) rfl ?_
      rw [← HP.out]
      exact ⟨c.kind, c.num, _, _, _, _, _, _, true, rfl, fun _ => ⟨rfl, m, c, rfl, HX.out.1, HX.out.2, rfl⟩, KP.out.2.2.2.2.2.1⟩
    · have dk : (c.kind != kind) = true := by simpa using hk
      have dk2 : (c.kind == kind) = false := by simpa using hk
      clear hx hk hl
      go_enter Tryz.func137, Tryz.ntmps137
      go_upto_region 1 with fail
      go_quiet (fail)
      go_upto_region 2 with fail
      refine wp_world (fun W => Blk W (w.heap.size + 1) 46 #[.int .i64 0, .int .i64 0, .slice none 0 0, .slice none 0 0] ∧ Below w.heap.size w W) ⟨(Blk.at_ _ _ _ (by simp)).drewN _, below_drewN (((Below.refl _ _).alloc (Nat.le_refl _) _).alloc (by simp) _) _⟩ ?_
      rintro W ⟨hC, hbW⟩
      have HC := Lib.hid (And.intro hC hbW); clear hC hbW
      go_wp2_with (refine wpList_st rfl 46 (.tmp 6) (.tmp 45) rfl (w.heap.size + 1) rfl rfl HC.out.1 (by kernel_rfl) rfl rfl ?_)
      refine bodyPost_ret (results_cell_tmp rfl _ _ (w.heap.size + 1) _ _ _ rfl HC.out.1.setRow Tryz.underlying46 rfl (by kernel_rfl)) rfl ?_
      exact HZ.out _ (bel_setRow HC.out.2 (by omega) _)
  · have d5 : (k == 5) = false := by simpa using h5
    have d6 : (k != 5) = true := by simpa using h5
    clear h5
    go_enter Tryz.func137, Tryz.ntmps137
    go_upto_region 1 with fail
    go_quiet (fail)
    go_upto_region 2 with fail
    refine wp_world (fun W => Blk W (w.heap.size + 1) 46 #[.int .i64 0, .int .i64 0, .slice none 0 0, .slice none 0 0] ∧ Below w.heap.size w W) ⟨(Blk.at_ _ _ _ (by simp)).drewN _, below_drewN (((Below.refl _ _).alloc (Nat.le_refl _) _).alloc (by simp) _) _⟩ ?_
    rintro W ⟨hC, hbW⟩
    have HC := Lib.hid (And.intro hC hbW); clear hC hbW
    go_wp2_with (refine wpList_st rfl 46 (.tmp 6) (.tmp 45) rfl (w.heap.size + 1) rfl rfl HC.out.1 (by kernel_rfl) rfl rfl ?_)
    refine bodyPost_ret (results_cell_tmp rfl _ _ (w.heap.size + 1) _ _ _ rfl HC.out.1.setRow Tryz.underlying46 rfl (by kernel_rfl)) rfl ?_
    exact HZ.out _ (bel_setRow HC.out.2 (by omega) _)
end Top
end Go.Proofs.YtdlcooplllimeaaGreatDoor

/- state: a frame, as it is, wherever it lies. -/
namespace Go.Proofs.YtdlcooplllimeaaGreatDoor
open Go.RowKit

attribute [local go_sem ↓] Go.wp_at_zero Go.wp_at_succ

namespace Top
theorem egFrame1 : ∀ args w, (callFunc 167 args).run Tryz.prog w = .ok (.enter 167 args) w := fun _ _ => by kernel_rfl
set_option maxRecDepth 100000 in
theorem frame1_any (w : World) (L p M q : Nat) (pg : Pg) (s : Stt) (k n : Int) (h : LkA w L p M pg s) (hq : Blk w q 100 #[.pointer (some ⟨L, 0, none⟩)]) (hk : I64 k) (hn : I64 n) :
    Calls Tryz.prog 167 #[.agg #[.int .i64 k, .int .i64 n], .pointer (some ⟨q, 0, none⟩)] w fun e w' => ∃ b : Bool, e = .returned (.bool b) ∧ (b = false → fitsS s (k, n)) ∧ Below w.heap.size w w' := by
  have hqlt := hq.lt
  have hLlt := h.lt
  have hb0 : Below w.heap.size w (w.alloc (.cells #[.int .i64 k, .int .i64 n] 48)) := (Below.refl _ _).alloc (Nat.le_refl _) _
  have H := Lib.hid (And.intro h (And.intro hq (And.intro hk hn))); clear h hq hk hn
  go_enter Tryz.func167, Tryz.ntmps167
  go_upto_region 1 with fail
  refine wp_world (fun W => Blk W w.heap.size 48 #[.int .i64 k, .int .i64 n] ∧ Below w.heap.size w W ∧ w.heap.size ≤ W.heap.size) ⟨Blk.new _ _ _, hb0, by simp⟩ ?_
  rintro W ⟨hV, hbW, hsW⟩
  have hL := H.out.1.fresh hbW
  have hS := hL.st
  obtain ⟨FA, CA, TA, XA, YA, fc, cc, tc, xc, yc, X, Y, h1, -⟩ := hL
  have hF := fun Z (hZ : Below W.heap.size W Z) => Fits_any Z p s k n (hS.fresh hZ) H.out.2.2.1 H.out.2.2.2
  have HW := Lib.hid (And.intro (H.out.2.1.fresh hbW) (And.intro h1 (And.intro hV (And.intro hF hbW)))); clear h1 hS hV hF hbW hb0
  have BX : Below W.heap.size W W.drew := (Below.refl _ _).drew
  refine wp_region_held_drew (S := (fun w' => w'.cell? ⟨q, 0, none⟩ = some (.pointer (some ⟨L, 0, none⟩)) ∧ w'.cell? ⟨L, 3, none⟩ = some (.pointer (some ⟨p, 0, none⟩)) ∧ w'.cell? ⟨w.heap.size, 0, none⟩ = some (.int .i64 k) ∧ w'.cell? ⟨w.heap.size, 1, none⟩ = some (.int .i64 n))) (by kernel_rfl) ?_ (fun hHeld0 => ?_)
  · first | trivial | ((try dsimp only); (exact ⟨(HW.out.1.fresh BX).cell 0 rfl, (HW.out.2.1.fresh BX).cell 3 rfl, (HW.out.2.2.1.fresh BX).cell 0 rfl, (HW.out.2.2.1.fresh BX).cell 1 rfl⟩))
  refine htk 0 rfl ?_
  try go_frame
  refine htk 1 rfl ?_
  try go_frame
  refine htk 2 rfl ?_
  try go_frame
  refine htk 3 rfl ?_
  try go_frame
  refine htk 4 rfl ?_
  try go_frame
  refine held_call 5 (by kernel_rfl) rfl (fun K hK => ?_)
  go_simp
  refine (HW.out.2.2.2.1 _ BX).mono ?_; rintro e wA ⟨b, rfl, hfb, hbA⟩; have BY := BX.trans (hbA.mono BX.size); clear BX; have BX := BY; clear BY
  try (go_wp2_with fail)
  refine hK.out _ _ ?_ (fun hHeld1 => ?_)
  · first | trivial | ((try dsimp only); (exact ⟨(HW.out.1.fresh BX).cell 0 rfl, (HW.out.2.1.fresh BX).cell 3 rfl, (HW.out.2.2.1.fresh BX).cell 0 rfl, (HW.out.2.2.1.fresh BX).cell 1 rfl⟩))
  clear hK K hHeld0
  try go_frame
  refine htk 6 rfl ?_
  try go_frame
  refine htk 7 rfl ?_
  try go_frame
  refine wpAnyH_done (by kernel_rfl) ?_ _
  have HB := Lib.hid (And.intro hfb BX); clear hfb BX hbA
  go_wp2_with fail
  go_returns
  exact ⟨_, rfl, fun h => HB.out.1 (by simpa using h), HW.out.2.2.2.2.trans (HB.out.2.mono hsW)⟩
theorem isC.fits {s : Stt} {v : Int × Int} {k m : Int} (h : isC s v k m) : fitsS s v := by
  obtain ⟨h1, j, c, h2, h3, -⟩ := h
  have hj := (List.getElem?_eq_some_iff.1 h3).1
  refine ⟨?_, fun h => ?_, fun _ => by rw [h2]; exact Int.ofNat_lt.2 hj⟩
  · unfold rightP
    rw [h1, h2]
    refine .inr (.inr (.inr (.inr (.inr (.inl ⟨rfl, by omega⟩)))))
  · rw [h1] at h; cases h
theorem swithin_true (n lo hi : Int) (h1 : lo ≤ n) (h2 : n ≤ hi) (w : World) : Calls Tryz.prog 88 #[.int .i64 n, .int .i64 lo, .int .i64 hi] w fun e w' => e = .returned (.bool true) ∧ w = w' := by
  have h := swithin_any n lo hi w
  rw [decide_eq_true h1, decide_eq_true h2] at h
  exact h
theorem swithin_false (n lo hi : Int) (h : ¬ (lo ≤ n ∧ n ≤ hi)) (w : World) : Calls Tryz.prog 88 #[.int .i64 n, .int .i64 lo, .int .i64 hi] w fun e w' => e = .returned (.bool false) ∧ w = w' := by
  have h0 := swithin_any n lo hi w
  by_cases h1 : lo ≤ n
  · rw [decide_eq_true h1, decide_eq_false (fun h2 => h ⟨h1, h2⟩)] at h0
    exact h0
  · rw [decide_eq_false h1] at h0
    exact h0
end Top
end Go.Proofs.YtdlcooplllimeaaGreatDoor

/- state: a frame, as it is, wherever it lies: its function. -/
namespace Go.Proofs.YtdlcooplllimeaaGreatDoor
open Go.RowKit

attribute [local go_sem ↓] Go.wp_at_zero Go.wp_at_succ

namespace Top
/-- what is known of a frame that was looked at -/
def FrL (pg : Pg) (s : Stt) (f : Fr) : Prop := (∃ (m k : Nat) (x : Fn), f.fn = (m : Int) ∧ pg.fns[m]? = some x ∧ f.at_ = (k : Int) ∧ k < x.code.length) ∧ f.regs.length ≤ 60 ∧ f.tries.length ≤ 20 ∧ fitsS s f.self ∧ ∀ v ∈ f.regs, fitsS s v
set_option maxHeartbeats 3200000 in
set_option maxRecDepth 100000 in
theorem frame_any (w : World) (L p M B rc tc : Nat) (RA TA : Option Addr) (pg : Pg) (s : Stt) (f : Fr) (h : LkA w L p M pg s) (hR : At w B RA f.regs) (hT : At w B TA f.tries) (hrc : f.regs.length ≤ rc ∧ rc ≤ maxLen) (htc : f.tries.length ≤ tc ∧ tc ≤ maxLen) (hB : B ≤ w.heap.size) (h1 : I64 f.self.1) (h2 : I64 f.self.2) (hcd : CdOk pg) (hcl : s.cells.length ≤ 300) :
    Calls Tryz.prog 159 #[.pointer (some ⟨L, 0, none⟩), .agg #[.int .i64 f.fn, .int .i64 f.at_, .int .i64 f.fto, .int .i64 f.gen, .int .i64 f.self.1, .int .i64 f.self.2, .slice RA f.regs.length rc, .slice TA f.tries.length tc]] w fun e w' => ∃ b : Bool, e = .returned (.bool b) ∧ (b = true → FrL pg s f) ∧ Below w.heap.size w w' := by
  obtain ⟨P, hP⟩ : ∃ P : Ending → World → Prop, (fun e w' => ∃ b : Bool, e = .returned (.bool b) ∧ (b = true → FrL pg s f) ∧ Below w.heap.size w w') = P := ⟨_, rfl⟩
  have HP := Lib.hid hP; rw [hP]; clear hP
  have hLlt := h.lt
  have hfin : ∀ w', Below w.heap.size w w' → P (.returned (.bool false)) w' := by
    intro w' h'
    rw [← HP.out]
    exact ⟨false, rfl, fun h => (by cases h), h'⟩
  have HN := Lib.hid hfin; clear hfin
  obtain ⟨hrc1, hrc2⟩ := hrc
  obtain ⟨htc1, htc2⟩ := htc
  unfold maxLen at hrc2 htc2
  obtain ⟨hone1, hone2⟩ := hcd.one
  have H := Lib.hid (And.intro h (And.intro hR (And.intro hT (And.intro h1 (And.intro h2 hcd))))); clear h hR hT h1 h2 hcd
  go_enter Tryz.func159, Tryz.ntmps159
  go_upto_region 1 with fail
  refine wp_world (fun W => Blk W w.heap.size 100 #[.pointer (some ⟨L, 0, none⟩)] ∧ Blk W (w.heap.size + 1) 141 #[.int .i64 f.fn, .int .i64 f.at_, .int .i64 f.fto, .int .i64 f.gen, .int .i64 f.self.1, .int .i64 f.self.2, .slice RA f.regs.length rc, .slice TA f.tries.length tc] ∧ Below w.heap.size w W ∧ w.heap.size + 2 ≤ W.heap.size) ⟨(Blk.new _ _ _).alloc _, Blk.at_ _ _ _ (by simp), ((Below.refl _ _).alloc (Nat.le_refl _) _).alloc (by simp) _, by simp⟩ ?_
  rintro W ⟨hQ, hF, hbW, hsW⟩
  have hLW := H.out.1.fresh hbW
  have hLW' := hLW
  obtain ⟨FA, CA, PA, XA, YA, fc, cc, pc, xc, yc, X, Y, k1, -, k3, -, k5, k6, k7⟩ := hLW'
  have HW := Lib.hid (And.intro hQ (And.intro hF (And.intro hbW (And.intro hLW (And.intro k1 (And.intro k3 (And.intro k5 (And.intro k6 k7)))))))); clear hQ hF hbW hLW k1 k3 k5 k6 k7
  have hwl : IntKind.i64.wrap ((pg.fns.length : Int) - 1) = (pg.fns.length : Int) - 1 := IntWalk.i64_in _ (by omega)
  have BX : Below W.heap.size W W.drew := (Below.refl _ _).drew
  by_cases hfn : 0 ≤ f.fn ∧ f.fn ≤ (pg.fns.length : Int) - 1
  · have hwi := swithin_true f.fn 0 ((pg.fns.length : Int) - 1) hfn.1 hfn.2
    obtain ⟨m, hm⟩ : ∃ m : Nat, f.fn = m := ⟨f.fn.toNat, by omega⟩
    have hmn : m < pg.fns.length := by omega
    have HWI := Lib.hid (And.intro hwi hm); clear hwi hfn hm
    refine wp_region_held_drew (S := (fun w' => w'.cell? ⟨w.heap.size, 0, none⟩ = some (.pointer (some ⟨L, 0, none⟩)) ∧ w'.cell? ⟨w.heap.size + 1, 0, none⟩ = some (.int .i64 f.fn) ∧ w'.cell? ⟨L, 0, none⟩ = some (.slice FA pg.fns.length fc))) (by kernel_rfl) ?_ (fun hHeld0 => ?_)
    · first | trivial | ((try dsimp only); (exact ⟨(HW.out.1.fresh BX).cell 0 rfl, (HW.out.2.1.fresh BX).cell 0 rfl, (HW.out.2.2.2.2.1.fresh BX).cell 0 rfl⟩))
    refine htk 0 rfl ?_
    try go_frame
    refine htk 1 rfl ?_
    try go_frame
    refine htk 2 rfl ?_
    try go_frame
    refine htk 3 rfl ?_
    try go_frame
    refine htk 4 rfl ?_
    try go_frame
    refine htk 5 rfl ?_
    try go_frame
    refine htk 6 rfl ?_
    try go_frame
    refine htk 7 rfl ?_
    try go_frame
    refine htk 8 rfl ?_
    try go_frame
    refine held_call 9 (by kernel_rfl) rfl (fun K hK => ?_)
    go_simp
    refine (HWI.out.1 _).mono ?_; rintro e wA ⟨rfl, rfl⟩
    try (go_wp2_with fail)
    refine hK.out _ _ ?_ (fun hHeld1 => ?_)
    · first | trivial | ((try dsimp only); (exact ⟨(HW.out.1.fresh BX).cell 0 rfl, (HW.out.2.1.fresh BX).cell 0 rfl, (HW.out.2.2.2.2.1.fresh BX).cell 0 rfl⟩))
    clear hK K hHeld0
    try go_frame
    refine htk 10 rfl ?_
    try go_frame
    refine wpAnyH_done (by kernel_rfl) ?_ _
    clear hwl
    go_upto_region 3 with fail
    refine wp_world (fun Z => Below W.heap.size W Z) BX ?_
    clear BX
    rintro W1 hW1
    obtain ⟨x, hx⟩ : ∃ x, pg.fns[m]? = some x := ⟨_, List.getElem?_eq_getElem hmn⟩
    have hW1s := hW1.size
    obtain ⟨b, o, x', KA, kc, DA, dc, rfl, hbb, hx', x0, x1, x2, x3, x4, -⟩ := (HW.out.2.2.2.2.2.1.below hW1).fn_ (k := m) hmn
    rw [hx] at hx'; injection hx' with hx'; subst hx'
    have keep : ∀ Z : World, Below W1.heap.size W1 Z → Z.cell? ⟨w.heap.size, 0, none⟩ = some (.pointer (some ⟨L, 0, none⟩)) ∧ Z.cell? ⟨w.heap.size + 1, 0, none⟩ = some (.int .i64 (m : Int)) ∧ Z.cell? ⟨L, 0, none⟩ = some (.slice (some ⟨b, o, none⟩) pg.fns.length fc) ∧ Z.cell? ⟨b, o + m * 5, none⟩ = some (.int .i64 x.params) ∧ Z.cell? ⟨b, o + m * 5 + 1, none⟩ = some (.int .i64 x.regs) ∧ Z.cell? ⟨b, o + m * 5 + 2, none⟩ = some (.bool x.gen) ∧ Z.cell? ⟨b, o + m * 5 + 3, none⟩ = some (.slice KA x.caught.length kc) ∧ Z.cell? ⟨b, o + m * 5 + 4, none⟩ = some (.slice DA x.code.length dc) :=
      fun Z hZ => ⟨((HW.out.1.fresh hW1).fresh hZ).cell 0 rfl, ((HW.out.2.1.fresh hW1).fresh hZ).cell 0 (by rw [← HWI.out.2]; rfl), ((HW.out.2.2.2.2.1.fresh hW1).fresh hZ).cell 0 rfl, (hZ.cell (p := ⟨b, o + m * 5, none⟩) (by simp; omega)).trans x0, (hZ.cell (p := ⟨b, o + m * 5 + 1, none⟩) (by simp; omega)).trans x1, (hZ.cell (p := ⟨b, o + m * 5 + 2, none⟩) (by simp; omega)).trans x2, (hZ.cell (p := ⟨b, o + m * 5 + 3, none⟩) (by simp; omega)).trans x3, (hZ.cell (p := ⟨b, o + m * 5 + 4, none⟩) (by simp; omega)).trans x4⟩
    have m0 : (0 : Int) ≤ (m : Int) := by omega
    have m1 : (m : Int) < (pg.fns.length : Int) := by omega
    have KP := Lib.hid (And.intro keep (And.intro hx hW1)); clear keep hx hW1 x0 x1 x2 x3 x4
    refine wp_region_held_drew (S := (fun w' => w'.cell? ⟨w.heap.size, 0, none⟩ = some (.pointer (some ⟨L, 0, none⟩)) ∧ w'.cell? ⟨w.heap.size + 1, 0, none⟩ = some (.int .i64 (m : Int)) ∧ w'.cell? ⟨L, 0, none⟩ = some (.slice (some ⟨b, o, none⟩) pg.fns.length fc) ∧ w'.cell? ⟨b, o + m * 5, none⟩ = some (.int .i64 x.params) ∧ w'.cell? ⟨b, o + m * 5 + 1, none⟩ = some (.int .i64 x.regs) ∧ w'.cell? ⟨b, o + m * 5 + 2, none⟩ = some (.bool x.gen) ∧ w'.cell? ⟨b, o + m * 5 + 3, none⟩ = some (.slice KA x.caught.length kc) ∧ w'.cell? ⟨b, o + m * 5 + 4, none⟩ = some (.slice DA x.code.length dc))) (by kernel_rfl) ?_ (fun hHeld0 => ?_)
    · first | trivial | ((try dsimp only); (exact KP.out.1 _ (Below.refl _ _).drew))
    refine htk 0 rfl ?_
    try go_frame
    refine htk 1 rfl ?_
    try go_frame
    refine htk 2 rfl ?_
    try go_frame
    refine htk 3 rfl ?_
    try go_frame
    refine htk 4 rfl ?_
    try go_frame
    refine htk 5 rfl ?_
    try go_frame
    refine htk 6 rfl ?_
    try go_frame
    refine htk 7 rfl ?_
    try go_frame
    refine htk 8 rfl ?_
    try go_frame
    refine held_call 9 (by kernel_rfl) rfl (fun K hK => ?_)
    go_simp
    refine hK.out _ _ ?_ (fun hHeld1 => ?_)
    · first | trivial | ((try dsimp only); (exact KP.out.1 _ ((Below.refl _ _).alloc (Nat.le_refl _) _).drew))
    clear hK K hHeld0
    try go_frame
    refine held_call 10 (by kernel_rfl) rfl (fun K hK => ?_)
    go_simp
    refine hK.out _ _ ?_ (fun hHeld2 => ?_)
    · first | trivial | ((try dsimp only); (exact KP.out.1 _ ((Below.refl _ _).alloc (Nat.le_refl _) _).drew))
    clear hK K hHeld1
    try go_frame
    refine wpAnyH_done (by kernel_rfl) ?_ _
    go_upto_region 4 with fail
    refine wp_world (fun V => Blk V W1.heap.size 160 #[.int .i64 x.params, .int .i64 x.regs, .bool x.gen, .slice KA x.caught.length kc, .slice DA x.code.length dc] ∧ Below W1.heap.size W1 V ∧ W1.heap.size + 1 ≤ V.heap.size) ⟨(Blk.new _ _ _).drew, ((Below.refl _ _).alloc (Nat.le_refl _) _).drew, by simp⟩ ?_
    rintro V ⟨hFn, hV, hVs⟩
    have hbV : Below W.heap.size W V := KP.out.2.2.trans (hV.mono (by omega))
    have q0 := (HW.out.1.fresh hbV).cell 0 (v := .pointer (some ⟨L, 0, none⟩)) rfl
    have f4 := (HW.out.2.1.fresh hbV).cell 4 (v := .int .i64 f.self.1) rfl
    have f5 := (HW.out.2.1.fresh hbV).cell 5 (v := .int .i64 f.self.2) rfl
    have hlc := lcell_any V L p M pg s f.self.1 f.self.2 4 (HW.out.2.2.2.1.fresh hbV) hcl
    have HV := Lib.hid (And.intro hlc (And.intro hFn hbV)); clear hlc hFn hbV hV
    go_wp2_with fail
    refine HV.out.1.mono ?_
    rintro e V2 ⟨a, m', A1, A2, n1, c1, n2, c2, bb, rfl, hisC, hb2⟩
    have H2 := Lib.hid (And.intro hisC (And.intro (HV.out.2.1.fresh hb2) (HV.out.2.2.trans (hb2.mono (by omega))))); clear hisC hb2 q0 f4 f5
    go_upto_region 5 with fail
    refine wp_world (fun V3 => Blk V3 V2.heap.size 46 #[.int .i64 a, .int .i64 m', .slice A1 n1 c1, .slice A2 n2 c2] ∧ Below V2.heap.size V2 V3) ⟨Blk.new _ _ _, (Below.refl _ _).alloc (Nat.le_refl _) _⟩ ?_
    rintro V3 ⟨hCe, hV3⟩
    have hbV3 : Below W.heap.size W V3 := H2.out.2.2.trans (hV3.mono (by have := H2.out.2.2.size; omega))
    have hFn3 := H2.out.2.1.fresh hV3
    have keep5 : ∀ Z : World, Below V3.heap.size V3 Z → Z.cell? ⟨w.heap.size, 0, none⟩ = some (.pointer (some ⟨L, 0, none⟩)) ∧ Z.cell? ⟨w.heap.size + 1, 0, none⟩ = some (.int .i64 (m : Int)) ∧ Z.cell? ⟨w.heap.size + 1, 1, none⟩ = some (.int .i64 f.at_) ∧ Z.cell? ⟨w.heap.size + 1, 6, none⟩ = some (.slice RA f.regs.length rc) ∧ Z.cell? ⟨W1.heap.size, 1, none⟩ = some (.int .i64 x.regs) ∧ Z.cell? ⟨W1.heap.size, 4, none⟩ = some (.slice DA x.code.length dc) ∧ Z.cell? ⟨V2.heap.size, 1, none⟩ = some (.int .i64 m') ∧ Z.cell? ⟨L, 5, none⟩ = some (.slice YA pg.fns.length yc) :=
      fun Z hZ => ⟨((HW.out.1.fresh hbV3).fresh hZ).cell 0 rfl, ((HW.out.2.1.fresh hbV3).fresh hZ).cell 0 (by rw [← HWI.out.2]; rfl), ((HW.out.2.1.fresh hbV3).fresh hZ).cell 1 rfl, ((HW.out.2.1.fresh hbV3).fresh hZ).cell 6 rfl, (hFn3.fresh hZ).cell 1 rfl, (hFn3.fresh hZ).cell 4 rfl, (hCe.fresh hZ).cell 1 rfl, ((HW.out.2.2.2.2.1.fresh hbV3).fresh hZ).cell 5 rfl⟩
    have hb0 : Below w.heap.size w V3 := HW.out.2.2.1.trans (hbV3.mono (by omega))
    have hsV3 := hbV3.size
    have H5 := Lib.hid (And.intro keep5 hb0)
    have H6 := Lib.hid (And.intro hbV3 (And.intro hFn3 hCe)); clear keep5 hb0 hFn3 hCe hbV3 hV3
    have BX : Below V3.heap.size V3 V3.drew := (Below.refl _ _).drew
    cases bb with
    | false =>
      refine wp_region_held_drew (S := (fun w' => w'.cell? ⟨w.heap.size, 0, none⟩ = some (.pointer (some ⟨L, 0, none⟩)) ∧ w'.cell? ⟨w.heap.size + 1, 0, none⟩ = some (.int .i64 (m : Int)) ∧ w'.cell? ⟨w.heap.size + 1, 1, none⟩ = some (.int .i64 f.at_) ∧ w'.cell? ⟨w.heap.size + 1, 6, none⟩ = some (.slice RA f.regs.length rc) ∧ w'.cell? ⟨W1.heap.size, 1, none⟩ = some (.int .i64 x.regs) ∧ w'.cell? ⟨W1.heap.size, 4, none⟩ = some (.slice DA x.code.length dc) ∧ w'.cell? ⟨V2.heap.size, 1, none⟩ = some (.int .i64 m') ∧ w'.cell? ⟨L, 5, none⟩ = some (.slice YA pg.fns.length yc))) (by kernel_rfl) ?_ (fun hHeld0 => ?_)
      · first | trivial | ((try dsimp only); (exact H5.out.1 _ BX))
      refine htk 0 rfl ?_
      try go_frame
      refine htk 1 rfl ?_
      try go_frame
      refine htk 2 rfl ?_
      try go_frame
      refine hsk 3 rfl ?_
      try go_frame
      refine hsk 4 rfl ?_
      try go_frame
      refine hsk 5 rfl ?_
      try go_frame
      refine hsk 6 rfl ?_
      try go_frame
      refine hsk 7 rfl ?_
      try go_frame
      refine htk 8 rfl ?_
      try go_frame
      refine htk 9 rfl ?_
      try go_frame
      refine hsk 10 rfl ?_
      try go_frame
      refine hsk 11 rfl ?_
      try go_frame
      refine hsk 12 rfl ?_
      try go_frame
      refine hsk 13 rfl ?_
      try go_frame
      refine hsk 14 rfl ?_
      try go_frame
      refine hsk 15 rfl ?_
      try go_frame
      refine htk 16 rfl ?_
      try go_frame
      refine htk 17 rfl ?_
      try go_frame
      refine hsk 18 rfl ?_
      try go_frame
      refine hsk 19 rfl ?_
      try go_frame
      refine hsk 20 rfl ?_
      try go_frame
      refine hsk 21 rfl ?_
      try go_frame
      refine hsk 22 rfl ?_
      try go_frame
      refine hsk 23 rfl ?_
      try go_frame
      refine hsk 24 rfl ?_
      try go_frame
      refine hsk 25 rfl ?_
      try go_frame
      refine htk 26 rfl ?_
      try go_frame
      refine htk 27 rfl ?_
      try go_frame
      refine hsk 28 rfl ?_
      try go_frame
      refine hsk 29 rfl ?_
      try go_frame
      refine hsk 30 rfl ?_
      try go_frame
      refine hsk 31 rfl ?_
      try go_frame
      refine hsk 32 rfl ?_
      try go_frame
      refine hsk 33 rfl ?_
      try go_frame
      refine hsk 34 rfl ?_
      try go_frame
      refine hsk 35 rfl ?_
      try go_frame
      refine hsk 36 rfl ?_
      try go_frame
      refine hsk 37 rfl ?_
      try go_frame
      refine hsk 38 rfl ?_
      try go_frame
      refine hsk 39 rfl ?_
      try go_frame
      refine hsk 40 rfl ?_
      try go_frame
      refine htk 41 rfl ?_
      try go_frame
      refine wpAnyH_done (by kernel_rfl) ?_ _
      go_wp2_with fail
      exact HN.out _ (H5.out.2.trans (BX.mono (by omega)))
    | true =>
    have hC := H2.out.1 rfl
    by_cases hnum : m' = (m : Int)
    · have dn : (m' == (m : Int)) = true := by rw [hnum]; exact beq_self_eq_true _
      have dn2 : (m' != (m : Int)) = false := by rw [hnum]; simp
      have HCC := Lib.hid (And.intro hC hnum); clear hC hnum
      by_cases hrg : (f.regs.length : Int) = x.regs
      · have dr : ((f.regs.length : Int) == x.regs) = true := by rw [hrg]; exact beq_self_eq_true _
        have dr2 : ((f.regs.length : Int) != x.regs) = false := by rw [hrg]; simp
        have HRG := Lib.hid hrg; clear hrg
        have hxm := H.out.2.2.2.2.2.fn x (List.mem_of_getElem? KP.out.2.1)
        have hcl6 : x.code.length ≤ 600 := hxm.2.1
        have HXM := Lib.hid hxm; clear hxm
        have hwc : IntKind.i64.wrap ((x.code.length : Int) - 1) = (x.code.length : Int) - 1 := IntWalk.i64_in _ (by omega)
        by_cases hat : 0 ≤ f.at_ ∧ f.at_ ≤ (x.code.length : Int) - 1
        · skip
          obtain ⟨k, hk⟩ : ∃ k : Nat, f.at_ = k := ⟨f.at_.toNat, by omega⟩
          have hkl : k < x.code.length := by omega
          have hwi := swithin_true (k : Int) 0 ((x.code.length : Int) - 1) (by omega) (by omega)
          have HW2 := Lib.hid (And.intro hwi hk); clear hwi hat hk
          obtain ⟨yb, yo, y, yA, zc, rfl, hyb, hy, ycell, yat, -⟩ := (HW.out.2.2.2.2.2.2.2.1.below H6.out.1).slice_ (k := m) (by rw [HW.out.2.2.2.2.2.2.2.2.2.1]; exact hmn)
          have hyl : y.length = x.code.length := by
            obtain ⟨xr0, hxr0⟩ : ∃ xr0, X[m]? = some xr0 := ⟨_, List.getElem?_eq_getElem (by rw [HW.out.2.2.2.2.2.2.2.2.1]; exact hmn)⟩
            exact (HW.out.2.2.2.2.2.2.2.2.2.2 m x xr0 y KP.out.2.1 hxr0 hy).2.1
          obtain ⟨zb, zo, yv, rfl, hzb, hyv, zcell⟩ := yat.bool_ (k := k) (by rw [hyl]; exact hkl)
          have keep6 : ∀ Z : World, Below V3.heap.size V3 Z → Z.cell? ⟨w.heap.size, 0, none⟩ = some (.pointer (some ⟨L, 0, none⟩)) ∧ Z.cell? ⟨w.heap.size + 1, 0, none⟩ = some (.int .i64 (m : Int)) ∧ Z.cell? ⟨w.heap.size + 1, 1, none⟩ = some (.int .i64 (k : Int)) ∧ Z.cell? ⟨w.heap.size + 1, 6, none⟩ = some (.slice RA f.regs.length rc) ∧ Z.cell? ⟨W1.heap.size, 1, none⟩ = some (.int .i64 x.regs) ∧ Z.cell? ⟨W1.heap.size, 4, none⟩ = some (.slice DA x.code.length dc) ∧ Z.cell? ⟨V2.heap.size, 1, none⟩ = some (.int .i64 m') ∧ Z.cell? ⟨L, 5, none⟩ = some (.slice (some ⟨yb, yo, none⟩) pg.fns.length yc) ∧ Z.cell? ⟨yb, yo + m, none⟩ = some (.slice (some ⟨zb, zo, none⟩) y.length zc) ∧ Z.cell? ⟨zb, zo + k, none⟩ = some (.bool yv) :=
            fun Z hZ => by
              obtain ⟨e1, e2, e3, e4, e5, e6, e7, e8⟩ := H5.out.1 Z hZ
              rw [HW2.out.2] at e3
              exact ⟨e1, e2, e3, e4, e5, e6, e7, e8, (hZ.cell (p := ⟨yb, yo + m, none⟩) (by simp; omega)).trans ycell, (hZ.cell (p := ⟨zb, zo + k, none⟩) (by simp; omega)).trans zcell⟩
          have k0 : (0 : Int) ≤ (k : Int) := by omega
          have ky : (k : Int) < (y.length : Int) := by rw [hyl]; omega
          have HY := Lib.hid (And.intro hy keep6); clear hy keep6 hyv zcell ycell yat
          cases yv with
          | false =>
            refine wp_region_held_drew (S := (fun w' => w'.cell? ⟨w.heap.size, 0, none⟩ = some (.pointer (some ⟨L, 0, none⟩)) ∧ w'.cell? ⟨w.heap.size + 1, 0, none⟩ = some (.int .i64 (m : Int)) ∧ w'.cell? ⟨w.heap.size + 1, 1, none⟩ = some (.int .i64 (k : Int)) ∧ w'.cell? ⟨w.heap.size + 1, 6, none⟩ = some (.slice RA f.regs.length rc) ∧ w'.cell? ⟨W1.heap.size, 1, none⟩ = some (.int .i64 x.regs) ∧ w'.cell? ⟨W1.heap.size, 4, none⟩ = some (.slice DA x.code.length dc) ∧ w'.cell? ⟨V2.heap.size, 1, none⟩ = some (.int .i64 m') ∧ w'.cell? ⟨L, 5, none⟩ = some (.slice (some ⟨yb, yo, none⟩) pg.fns.length yc) ∧ w'.cell? ⟨yb, yo + m, none⟩ = some (.slice (some ⟨zb, zo, none⟩) y.length zc) ∧ w'.cell? ⟨zb, zo + k, none⟩ = some (.bool false))) (by kernel_rfl) ?_ (fun hHeld0 => ?_)
            · first | trivial | ((try dsimp only); (exact HY.out.2 _ BX))
            refine htk 0 rfl ?_
            try go_frame
            refine htk 1 rfl ?_
            try go_frame
            refine htk 2 rfl ?_
            try go_frame
            refine htk 3 rfl ?_
            try go_frame
            refine htk 4 rfl ?_
            try go_frame
            refine htk 5 rfl ?_
            try go_frame
            refine htk 6 rfl ?_
            try go_frame
            refine htk 7 rfl ?_
            try go_frame
            refine htk 8 rfl ?_
            try go_frame
            refine htk 9 rfl ?_
            try go_frame
            refine htk 10 rfl ?_
            try go_frame
            refine htk 11 rfl ?_
            try go_frame
            refine htk 12 rfl ?_
            try go_frame
            refine htk 13 rfl ?_
            try go_frame
            refine htk 14 rfl ?_
            try go_frame
            refine htk 15 rfl ?_
            try go_frame
            refine htk 16 rfl ?_
            try go_frame
            refine htk 17 rfl ?_
            try go_frame
            refine htk 18 rfl ?_
            try go_frame
            refine htk 19 rfl ?_
            try go_frame
            refine htk 20 rfl ?_
            try go_frame
            refine htk 21 rfl ?_
            try go_frame
            refine htk 22 rfl ?_
            try go_frame
            refine htk 23 rfl ?_
            try go_frame
            refine held_call 24 (by kernel_rfl) rfl (fun K hK => ?_)
            go_simp
            refine (HW2.out.1 _).mono ?_; rintro e wA ⟨rfl, rfl⟩
            try (go_wp2_with fail)
            refine hK.out _ _ ?_ (fun hHeld1 => ?_)
            · first | trivial | ((try dsimp only); (exact HY.out.2 _ BX))
            clear hK K hHeld0
            try go_frame
            refine htk 25 rfl ?_
            try go_frame
            refine htk 26 rfl ?_
            try go_frame
            refine htk 27 rfl ?_
            try go_frame
            refine htk 28 rfl ?_
            try go_frame
            refine htk 29 rfl ?_
            try go_frame
            refine htk 30 rfl ?_
            try go_frame
            refine htk 31 rfl ?_
            try go_frame
            refine htk 32 rfl ?_
            try go_frame
            refine htk 33 rfl ?_
            try go_frame
            refine htk 34 rfl ?_
            try go_frame
            refine htk 35 rfl ?_
            try go_frame
            refine htk 36 rfl ?_
            try go_frame
            refine htk 37 rfl ?_
            try go_frame
            refine htk 38 rfl ?_
            try go_frame
            refine htk 39 rfl ?_
            try go_frame
            refine htk 40 rfl ?_
            try go_frame
            refine htk 41 rfl ?_
            try go_frame
            refine wpAnyH_done (by kernel_rfl) ?_ _
            go_wp2_with fail
            exact HN.out _ (H5.out.2.trans (BX.mono (by omega)))
          | true =>
            refine wp_region_held_drew (S := (fun w' => w'.cell? ⟨w.heap.size, 0, none⟩ = some (.pointer (some ⟨L, 0, none⟩)) ∧ w'.cell? ⟨w.heap.size + 1, 0, none⟩ = some (.int .i64 (m : Int)) ∧ w'.cell? ⟨w.heap.size + 1, 1, none⟩ = some (.int .i64 (k : Int)) ∧ w'.cell? ⟨w.heap.size + 1, 6, none⟩ = some (.slice RA f.regs.length rc) ∧ w'.cell? ⟨W1.heap.size, 1, none⟩ = some (.int .i64 x.regs) ∧ w'.cell? ⟨W1.heap.size, 4, none⟩ = some (.slice DA x.code.length dc) ∧ w'.cell? ⟨V2.heap.size, 1, none⟩ = some (.int .i64 m') ∧ w'.cell? ⟨L, 5, none⟩ = some (.slice (some ⟨yb, yo, none⟩) pg.fns.length yc) ∧ w'.cell? ⟨yb, yo + m, none⟩ = some (.slice (some ⟨zb, zo, none⟩) y.length zc) ∧ w'.cell? ⟨zb, zo + k, none⟩ = some (.bool true))) (by kernel_rfl) ?_ (fun hHeld0 => ?_)
            · first | trivial | ((try dsimp only); (exact HY.out.2 _ BX))
            refine htk 0 rfl ?_
            try go_frame
            refine htk 1 rfl ?_
            try go_frame
            refine htk 2 rfl ?_
            try go_frame
            refine htk 3 rfl ?_
            try go_frame
            refine htk 4 rfl ?_
            try go_frame
            refine htk 5 rfl ?_
            try go_frame
            refine htk 6 rfl ?_
            try go_frame
            refine htk 7 rfl ?_
            try go_frame
            refine htk 8 rfl ?_
            try go_frame
            refine htk 9 rfl ?_
            try go_frame
            refine htk 10 rfl ?_
            try go_frame
            refine htk 11 rfl ?_
            try go_frame
            refine htk 12 rfl ?_
            try go_frame
            refine htk 13 rfl ?_
            try go_frame
            refine htk 14 rfl ?_
            try go_frame
            refine htk 15 rfl ?_
            try go_frame
            refine htk 16 rfl ?_
            try go_frame
            refine htk 17 rfl ?_
            try go_frame
            refine htk 18 rfl ?_
            try go_frame
            refine htk 19 rfl ?_
            try go_frame
            refine htk 20 rfl ?_
            try go_frame
            refine htk 21 rfl ?_
            try go_frame
            refine htk 22 rfl ?_
            try go_frame
            refine htk 23 rfl ?_
            try go_frame
            refine held_call 24 (by kernel_rfl) rfl (fun K hK => ?_)
            go_simp
            refine (HW2.out.1 _).mono ?_; rintro e wA ⟨rfl, rfl⟩
            try (go_wp2_with fail)
            refine hK.out _ _ ?_ (fun hHeld1 => ?_)
            · first | trivial | ((try dsimp only); (exact HY.out.2 _ BX))
            clear hK K hHeld0
            try go_frame
            refine htk 25 rfl ?_
            try go_frame
            refine htk 26 rfl ?_
            try go_frame
            refine htk 27 rfl ?_
            try go_frame
            refine htk 28 rfl ?_
            try go_frame
            refine htk 29 rfl ?_
            try go_frame
            refine htk 30 rfl ?_
            try go_frame
            refine htk 31 rfl ?_
            try go_frame
            refine htk 32 rfl ?_
            try go_frame
            refine htk 33 rfl ?_
            try go_frame
            refine htk 34 rfl ?_
            try go_frame
            refine htk 35 rfl ?_
            try go_frame
            refine htk 36 rfl ?_
            try go_frame
            refine htk 37 rfl ?_
            try go_frame
            refine htk 38 rfl ?_
            try go_frame
            refine htk 39 rfl ?_
            try go_frame
            refine htk 40 rfl ?_
            try go_frame
            refine htk 41 rfl ?_
            try go_frame
            refine wpAnyH_done (by kernel_rfl) ?_ _
            go_upto_region 7 with fail
            refine wp_world (fun Z => Below V3.heap.size V3 Z) BX ?_
            clear BX hwc
            rintro V4 hV4
            have hb4 : Below W.heap.size W V4 := H6.out.1.trans (hV4.mono (by omega))
            have hs4 := hb4.size
            obtain ⟨xb, xo, xr, xA, uc, rfl, hxb, hxr, xcell, xat, -⟩ := (HW.out.2.2.2.2.2.2.1.below hb4).slice_ (k := m) (by rw [HW.out.2.2.2.2.2.2.2.2.1]; exact hmn)
            have hto := HW.out.2.2.2.2.2.2.2.2.2.2 m x xr y KP.out.2.1 hxr HY.out.1
            obtain ⟨ub, uo, tl, TL, tlc, rfl, hub, htl, ucell, tat, -⟩ := xat.slice_ (k := k) (by rw [hto.1]; exact hkl)
            have htl20 := hto.2.2 tl (List.mem_of_getElem? htl)
            have keep7 : ∀ Z : World, Below V4.heap.size V4 Z → Z.cell? ⟨w.heap.size, 0, none⟩ = some (.pointer (some ⟨L, 0, none⟩)) ∧ Z.cell? ⟨w.heap.size + 1, 0, none⟩ = some (.int .i64 (m : Int)) ∧ Z.cell? ⟨w.heap.size + 1, 1, none⟩ = some (.int .i64 (k : Int)) ∧ Z.cell? ⟨w.heap.size + 1, 6, none⟩ = some (.slice RA f.regs.length rc) ∧ Z.cell? ⟨w.heap.size + 1, 7, none⟩ = some (.slice TA f.tries.length tc) ∧ Z.cell? ⟨L, 4, none⟩ = some (.slice (some ⟨xb, xo, none⟩) pg.fns.length xc) ∧ Z.cell? ⟨xb, xo + m, none⟩ = some (.slice (some ⟨ub, uo, none⟩) xr.length uc) ∧ Z.cell? ⟨ub, uo + k, none⟩ = some (.slice TL tl.length tlc) :=
              fun Z hZ => ⟨((HW.out.1.fresh hb4).fresh hZ).cell 0 rfl, ((HW.out.2.1.fresh hb4).fresh hZ).cell 0 (by rw [← HWI.out.2]; rfl), ((HW.out.2.1.fresh hb4).fresh hZ).cell 1 (by rw [← HW2.out.2]; rfl), ((HW.out.2.1.fresh hb4).fresh hZ).cell 6 rfl, ((HW.out.2.1.fresh hb4).fresh hZ).cell 7 rfl, ((HW.out.2.2.2.2.1.fresh hb4).fresh hZ).cell 4 rfl, (hZ.cell (p := ⟨xb, xo + m, none⟩) (by simp; omega)).trans xcell, (hZ.cell (p := ⟨ub, uo + k, none⟩) (by simp; omega)).trans ucell⟩
            have hb40 : Below w.heap.size w V4 := HW.out.2.2.1.trans (hb4.mono (by omega))
            have heq := fun Z (hZ : Below V4.heap.size V4 Z) => eqP_any108 TA TL tc tlc Z.heap.size f.tries.length tl.length f.tries tl Z rfl rfl ((H.out.2.2.1.below ((hb40.trans (hZ.mono hb40.size)).mono hB)).more (by have := hb40.size; have := hZ.size; omega)) ((tat.below (hZ.mono (by omega))).more (by have := hZ.size; omega)) (by unfold maxLen; omega)
            have k1 : (k : Int) < (xr.length : Int) := by rw [hto.1]; omega
            have hct := fun Z (hZ : Below V4.heap.size V4 Z) => ctFVal_any RA rc B 167 f.regs.length #[.pointer (some ⟨w.heap.size, 0, none⟩)] f.regs Z (fun v => fitsS s v) rfl (H.out.2.1.below ((hb40.trans (hZ.mono hb40.size)).mono hB)) (by have := hb40.size; have := hZ.size; omega) (by omega) egFrame1
              (fun Z2 hZ2 v _ i1 i2 => frame1_any Z2 L p M w.heap.size pg s v.1 v.2 (((HW.out.2.2.2.1.fresh hb4).fresh hZ).fresh hZ2) (((HW.out.1.fresh hb4).fresh hZ).fresh hZ2) i1 i2)
            have H7 := Lib.hid (And.intro keep7 (And.intro hb40 (And.intro heq (And.intro hct htl20)))); clear keep7 hb40 heq hct htl20 hto hxr htl xcell ucell tat xat hb4 hV4
            have BX : Below V4.heap.size V4 V4.drew := (Below.refl _ _).drew
            by_cases htr : f.tries = tl
            · have HTR := Lib.hid htr; clear htr
              refine wp_region_held_drew (S := (fun w' => w'.cell? ⟨w.heap.size, 0, none⟩ = some (.pointer (some ⟨L, 0, none⟩)) ∧ w'.cell? ⟨w.heap.size + 1, 0, none⟩ = some (.int .i64 (m : Int)) ∧ w'.cell? ⟨w.heap.size + 1, 1, none⟩ = some (.int .i64 (k : Int)) ∧ w'.cell? ⟨w.heap.size + 1, 6, none⟩ = some (.slice RA f.regs.length rc) ∧ w'.cell? ⟨w.heap.size + 1, 7, none⟩ = some (.slice TA f.tries.length tc) ∧ w'.cell? ⟨L, 4, none⟩ = some (.slice (some ⟨xb, xo, none⟩) pg.fns.length xc) ∧ w'.cell? ⟨xb, xo + m, none⟩ = some (.slice (some ⟨ub, uo, none⟩) xr.length uc) ∧ w'.cell? ⟨ub, uo + k, none⟩ = some (.slice TL tl.length tlc))) (by kernel_rfl) ?_ (fun hHeld0 => ?_)
              · first | trivial | ((try dsimp only); (exact H7.out.1 _ BX))
              refine htk 0 rfl ?_
              try go_frame
              refine htk 1 rfl ?_
              try go_frame
              refine htk 2 rfl ?_
              try go_frame
              refine htk 3 rfl ?_
              try go_frame
              refine htk 4 rfl ?_
              try go_frame
              refine htk 5 rfl ?_
              try go_frame
              refine htk 6 rfl ?_
              try go_frame
              refine htk 7 rfl ?_
              try go_frame
              refine htk 8 rfl ?_
              try go_frame
              refine htk 9 rfl ?_
              try go_frame
              refine htk 10 rfl ?_
              try go_frame
              refine htk 11 rfl ?_
              try go_frame
              refine htk 12 rfl ?_
              try go_frame
              refine htk 13 rfl ?_
              try go_frame
              refine held_call 14 (by kernel_rfl) rfl (fun K hK => ?_)
              go_simp
              refine (H7.out.2.2.1 _ BX).mono ?_; rintro e wA ⟨b9, rfl, hb9, hbA⟩; obtain rfl : b9 = true := hb9.2 HTR.out; clear hb9; have BY := BX.trans (hbA.mono BX.size); clear BX; have BX := BY; clear BY
              try (go_wp2_with fail)
              refine hK.out _ _ ?_ (fun hHeld1 => ?_)
              · first | trivial | ((try dsimp only); (exact H7.out.1 _ BX))
              clear hK K hHeld0
              try go_frame
              refine htk 15 rfl ?_
              try go_frame
              refine htk 16 rfl ?_
              try go_frame
              refine htk 17 rfl ?_
              try go_frame
              refine htk 18 rfl ?_
              try go_frame
              refine held_call 19 (by kernel_rfl) rfl (fun K hK => ?_)
              go_simp
              refine (H7.out.2.2.2.1 _ BX).mono ?_; rintro e wB ⟨b8, rfl, hb8, hbB⟩; have BY := BX.trans (hbB.mono BX.size); clear BX; have BX := BY; clear BY
              try (go_wp2_with fail)
              refine hK.out _ _ ?_ (fun hHeld2 => ?_)
              · first | trivial | ((try dsimp only); (exact H7.out.1 _ BX))
              clear hK K hHeld1
              try go_frame
              refine htk 20 rfl ?_
              try go_frame
              refine htk 21 rfl ?_
              try go_frame
              refine htk 22 rfl ?_
              try go_frame
              refine wpAnyH_done (by kernel_rfl) ?_ _
              have H8 := Lib.hid (And.intro hb8 BX); clear hb8 BX hbA hbB
              go_wp2_with fail
              rw [← HP.out]
              refine ⟨_, rfl, fun h => ⟨⟨m, k, x, HWI.out.2, KP.out.2.1, HW2.out.2, hkl⟩, ?_, ?_, HCC.out.1.fits, H8.out.1 (by simpa using h)⟩, H7.out.2.1.trans (H8.out.2.mono (by have := H7.out.2.1.size; omega))⟩
              · have := HRG.out; have := HXM.out.1; omega
              · rw [HTR.out]; exact H7.out.2.2.2.2
            · have HTR := Lib.hid htr; clear htr
              refine wp_region_held_drew (S := (fun w' => w'.cell? ⟨w.heap.size, 0, none⟩ = some (.pointer (some ⟨L, 0, none⟩)) ∧ w'.cell? ⟨w.heap.size + 1, 0, none⟩ = some (.int .i64 (m : Int)) ∧ w'.cell? ⟨w.heap.size + 1, 1, none⟩ = some (.int .i64 (k : Int)) ∧ w'.cell? ⟨w.heap.size + 1, 6, none⟩ = some (.slice RA f.regs.length rc) ∧ w'.cell? ⟨w.heap.size + 1, 7, none⟩ = some (.slice TA f.tries.length tc) ∧ w'.cell? ⟨L, 4, none⟩ = some (.slice (some ⟨xb, xo, none⟩) pg.fns.length xc) ∧ w'.cell? ⟨xb, xo + m, none⟩ = some (.slice (some ⟨ub, uo, none⟩) xr.length uc) ∧ w'.cell? ⟨ub, uo + k, none⟩ = some (.slice TL tl.length tlc))) (by kernel_rfl) ?_ (fun hHeld0 => ?_)
              · first | trivial | ((try dsimp only); (exact H7.out.1 _ BX))
              refine htk 0 rfl ?_
              try go_frame
              refine htk 1 rfl ?_
              try go_frame
              refine htk 2 rfl ?_
              try go_frame
              refine htk 3 rfl ?_
              try go_frame
              refine htk 4 rfl ?_
              try go_frame
              refine htk 5 rfl ?_
              try go_frame
              refine htk 6 rfl ?_
              try go_frame
              refine htk 7 rfl ?_
              try go_frame
              refine htk 8 rfl ?_
              try go_frame
              refine htk 9 rfl ?_
              try go_frame
              refine htk 10 rfl ?_
              try go_frame
              refine htk 11 rfl ?_
              try go_frame
              refine htk 12 rfl ?_
              try go_frame
              refine htk 13 rfl ?_
              try go_frame
              refine held_call 14 (by kernel_rfl) rfl (fun K hK => ?_)
              go_simp
              refine (H7.out.2.2.1 _ BX).mono ?_; rintro e wA ⟨b9, rfl, hb9, hbA⟩; obtain rfl : b9 = false := Bool.eq_false_iff.2 (fun h => HTR.out (hb9.1 h)); clear hb9; have BY := BX.trans (hbA.mono BX.size); clear BX; have BX := BY; clear BY
              try (go_wp2_with fail)
              refine hK.out _ _ ?_ (fun hHeld1 => ?_)
              · first | trivial | ((try dsimp only); (exact H7.out.1 _ BX))
              clear hK K hHeld0
              try go_frame
              refine htk 15 rfl ?_
              try go_frame
              refine hsk 16 rfl ?_
              try go_frame
              refine hsk 17 rfl ?_
              try go_frame
              refine hsk 18 rfl ?_
              try go_frame
              refine hsk 19 rfl ?_
              try go_frame
              refine hsk 20 rfl ?_
              try go_frame
              refine htk 21 rfl ?_
              try go_frame
              refine htk 22 rfl ?_
              try go_frame
              refine wpAnyH_done (by kernel_rfl) ?_ _
              go_wp2_with fail
              exact HN.out _ (H7.out.2.1.trans (BX.mono (by have := H7.out.2.1.size; omega)))
        · have hwi := swithin_false f.at_ 0 ((x.code.length : Int) - 1) hat
          have HW2 := Lib.hid hwi; clear hwi hat
          refine wp_region_held_drew (S := (fun w' => w'.cell? ⟨w.heap.size, 0, none⟩ = some (.pointer (some ⟨L, 0, none⟩)) ∧ w'.cell? ⟨w.heap.size + 1, 0, none⟩ = some (.int .i64 (m : Int)) ∧ w'.cell? ⟨w.heap.size + 1, 1, none⟩ = some (.int .i64 f.at_) ∧ w'.cell? ⟨w.heap.size + 1, 6, none⟩ = some (.slice RA f.regs.length rc) ∧ w'.cell? ⟨W1.heap.size, 1, none⟩ = some (.int .i64 x.regs) ∧ w'.cell? ⟨W1.heap.size, 4, none⟩ = some (.slice DA x.code.length dc) ∧ w'.cell? ⟨V2.heap.size, 1, none⟩ = some (.int .i64 m') ∧ w'.cell? ⟨L, 5, none⟩ = some (.slice YA pg.fns.length yc))) (by kernel_rfl) ?_ (fun hHeld0 => ?_)
          · first | trivial | ((try dsimp only); (exact H5.out.1 _ BX))
          refine htk 0 rfl ?_
          try go_frame
          refine htk 1 rfl ?_
          try go_frame
          refine htk 2 rfl ?_
          try go_frame
          refine htk 3 rfl ?_
          try go_frame
          refine htk 4 rfl ?_
          try go_frame
          refine htk 5 rfl ?_
          try go_frame
          refine htk 6 rfl ?_
          try go_frame
          refine htk 7 rfl ?_
          try go_frame
          refine htk 8 rfl ?_
          try go_frame
          refine htk 9 rfl ?_
          try go_frame
          refine htk 10 rfl ?_
          try go_frame
          refine htk 11 rfl ?_
          try go_frame
          refine htk 12 rfl ?_
          try go_frame
          refine htk 13 rfl ?_
          try go_frame
          refine htk 14 rfl ?_
          try go_frame
          refine htk 15 rfl ?_
          try go_frame
          refine htk 16 rfl ?_
          try go_frame
          refine htk 17 rfl ?_
          try go_frame
          refine htk 18 rfl ?_
          try go_frame
          refine htk 19 rfl ?_
          try go_frame
          refine htk 20 rfl ?_
          try go_frame
          refine htk 21 rfl ?_
          try go_frame
          refine htk 22 rfl ?_
          try go_frame
          refine htk 23 rfl ?_
          try go_frame
          refine held_call 24 (by kernel_rfl) rfl (fun K hK => ?_)
          go_simp
          refine (HW2.out _).mono ?_; rintro e wA ⟨rfl, rfl⟩
          try (go_wp2_with fail)
          refine hK.out _ _ ?_ (fun hHeld1 => ?_)
          · first | trivial | ((try dsimp only); (exact H5.out.1 _ BX))
          clear hK K hHeld0
          try go_frame
          refine htk 25 rfl ?_
          try go_frame
          refine htk 26 rfl ?_
          try go_frame
          refine htk 27 rfl ?_
          try go_frame
          refine hsk 28 rfl ?_
          try go_frame
          refine hsk 29 rfl ?_
          try go_frame
          refine hsk 30 rfl ?_
          try go_frame
          refine hsk 31 rfl ?_
          try go_frame
          refine hsk 32 rfl ?_
          try go_frame
          refine hsk 33 rfl ?_
          try go_frame
          refine hsk 34 rfl ?_
          try go_frame
          refine hsk 35 rfl ?_
          try go_frame
          refine hsk 36 rfl ?_
          try go_frame
          refine hsk 37 rfl ?_
          try go_frame
          refine hsk 38 rfl ?_
          try go_frame
          refine hsk 39 rfl ?_
          try go_frame
          refine hsk 40 rfl ?_
          try go_frame
          refine htk 41 rfl ?_
          try go_frame
          refine wpAnyH_done (by kernel_rfl) ?_ _
          go_wp2_with fail
          exact HN.out _ (H5.out.2.trans (BX.mono (by omega)))
      · have dr : ((f.regs.length : Int) == x.regs) = false := by simpa using hrg
        have dr2 : ((f.regs.length : Int) != x.regs) = true := by simpa using hrg
        clear hrg
        refine wp_region_held_drew (S := (fun w' => w'.cell? ⟨w.heap.size, 0, none⟩ = some (.pointer (some ⟨L, 0, none⟩)) ∧ w'.cell? ⟨w.heap.size + 1, 0, none⟩ = some (.int .i64 (m : Int)) ∧ w'.cell? ⟨w.heap.size + 1, 1, none⟩ = some (.int .i64 f.at_) ∧ w'.cell? ⟨w.heap.size + 1, 6, none⟩ = some (.slice RA f.regs.length rc) ∧ w'.cell? ⟨W1.heap.size, 1, none⟩ = some (.int .i64 x.regs) ∧ w'.cell? ⟨W1.heap.size, 4, none⟩ = some (.slice DA x.code.length dc) ∧ w'.cell? ⟨V2.heap.size, 1, none⟩ = some (.int .i64 m') ∧ w'.cell? ⟨L, 5, none⟩ = some (.slice YA pg.fns.length yc))) (by kernel_rfl) ?_ (fun hHeld0 => ?_)
        · first | trivial | ((try dsimp only); (exact H5.out.1 _ BX))
        refine htk 0 rfl ?_
        try go_frame
        refine htk 1 rfl ?_
        try go_frame
        refine htk 2 rfl ?_
        try go_frame
        refine htk 3 rfl ?_
        try go_frame
        refine htk 4 rfl ?_
        try go_frame
        refine htk 5 rfl ?_
        try go_frame
        refine htk 6 rfl ?_
        try go_frame
        refine htk 7 rfl ?_
        try go_frame
        refine htk 8 rfl ?_
        try go_frame
        refine htk 9 rfl ?_
        try go_frame
        refine htk 10 rfl ?_
        try go_frame
        refine htk 11 rfl ?_
        try go_frame
        refine htk 12 rfl ?_
        try go_frame
        refine htk 13 rfl ?_
        try go_frame
        refine htk 14 rfl ?_
        try go_frame
        refine htk 15 rfl ?_
        try go_frame
        refine htk 16 rfl ?_
        try go_frame
        refine htk 17 rfl ?_
        try go_frame
        refine hsk 18 rfl ?_
        try go_frame
        refine hsk 19 rfl ?_
        try go_frame
        refine hsk 20 rfl ?_
        try go_frame
        refine hsk 21 rfl ?_
        try go_frame
        refine hsk 22 rfl ?_
        try go_frame
        refine hsk 23 rfl ?_
        try go_frame
        refine hsk 24 rfl ?_
        try go_frame
        refine hsk 25 rfl ?_
        try go_frame
        refine htk 26 rfl ?_
        try go_frame
        refine htk 27 rfl ?_
        try go_frame
        refine hsk 28 rfl ?_
        try go_frame
        refine hsk 29 rfl ?_
        try go_frame
        refine hsk 30 rfl ?_
        try go_frame
        refine hsk 31 rfl ?_
        try go_frame
        refine hsk 32 rfl ?_
        try go_frame
        refine hsk 33 rfl ?_
        try go_frame
        refine hsk 34 rfl ?_
        try go_frame
        refine hsk 35 rfl ?_
        try go_frame
        refine hsk 36 rfl ?_
        try go_frame
        refine hsk 37 rfl ?_
        try go_frame
        refine hsk 38 rfl ?_
        try go_frame
        refine hsk 39 rfl ?_
        try go_frame
        refine hsk 40 rfl ?_
        try go_frame
        refine htk 41 rfl ?_
        try go_frame
        refine wpAnyH_done (by kernel_rfl) ?_ _
        go_wp2_with fail
        exact HN.out _ (H5.out.2.trans (BX.mono (by omega)))
    · have dn : (m' == (m : Int)) = false := by simpa using hnum
      have dn2 : (m' != (m : Int)) = true := by simpa using hnum
      clear hnum hC
      refine wp_region_held_drew (S := (fun w' => w'.cell? ⟨w.heap.size, 0, none⟩ = some (.pointer (some ⟨L, 0, none⟩)) ∧ w'.cell? ⟨w.heap.size + 1, 0, none⟩ = some (.int .i64 (m : Int)) ∧ w'.cell? ⟨w.heap.size + 1, 1, none⟩ = some (.int .i64 f.at_) ∧ w'.cell? ⟨w.heap.size + 1, 6, none⟩ = some (.slice RA f.regs.length rc) ∧ w'.cell? ⟨W1.heap.size, 1, none⟩ = some (.int .i64 x.regs) ∧ w'.cell? ⟨W1.heap.size, 4, none⟩ = some (.slice DA x.code.length dc) ∧ w'.cell? ⟨V2.heap.size, 1, none⟩ = some (.int .i64 m') ∧ w'.cell? ⟨L, 5, none⟩ = some (.slice YA pg.fns.length yc))) (by kernel_rfl) ?_ (fun hHeld0 => ?_)
      · first | trivial | ((try dsimp only); (exact H5.out.1 _ BX))
      refine htk 0 rfl ?_
      try go_frame
      refine htk 1 rfl ?_
      try go_frame
      refine htk 2 rfl ?_
      try go_frame
      refine htk 3 rfl ?_
      try go_frame
      refine htk 4 rfl ?_
      try go_frame
      refine htk 5 rfl ?_
      try go_frame
      refine htk 6 rfl ?_
      try go_frame
      refine htk 7 rfl ?_
      try go_frame
      refine htk 8 rfl ?_
      try go_frame
      refine htk 9 rfl ?_
      try go_frame
      refine hsk 10 rfl ?_
      try go_frame
      refine hsk 11 rfl ?_
      try go_frame
      refine hsk 12 rfl ?_
      try go_frame
      refine hsk 13 rfl ?_
      try go_frame
      refine hsk 14 rfl ?_
      try go_frame
      refine hsk 15 rfl ?_
      try go_frame
      refine htk 16 rfl ?_
      try go_frame
      refine htk 17 rfl ?_
      try go_frame
      refine hsk 18 rfl ?_
      try go_frame
      refine hsk 19 rfl ?_
      try go_frame
      refine hsk 20 rfl ?_
      try go_frame
      refine hsk 21 rfl ?_
      try go_frame
      refine hsk 22 rfl ?_
      try go_frame
      refine hsk 23 rfl ?_
      try go_frame
      refine hsk 24 rfl ?_
      try go_frame
      refine hsk 25 rfl ?_
      try go_frame
      refine htk 26 rfl ?_
      try go_frame
      refine htk 27 rfl ?_
      try go_frame
      refine hsk 28 rfl ?_
      try go_frame
      refine hsk 29 rfl ?_
      try go_frame
      refine hsk 30 rfl ?_
      try go_frame
      refine hsk 31 rfl ?_
      try go_frame
      refine hsk 32 rfl ?_
      try go_frame
      refine hsk 33 rfl ?_
      try go_frame
      refine hsk 34 rfl ?_
      try go_frame
      refine hsk 35 rfl ?_
      try go_frame
      refine hsk 36 rfl ?_
      try go_frame
      refine hsk 37 rfl ?_
      try go_frame
      refine hsk 38 rfl ?_
      try go_frame
      refine hsk 39 rfl ?_
      try go_frame
      refine hsk 40 rfl ?_
      try go_frame
      refine htk 41 rfl ?_
      try go_frame
      refine wpAnyH_done (by kernel_rfl) ?_ _
      go_wp2_with fail
      exact HN.out _ (H5.out.2.trans (BX.mono (by omega)))
  · have hwi := swithin_false f.fn 0 ((pg.fns.length : Int) - 1) hfn
    have HWI := Lib.hid hwi; clear hwi hfn
    refine wp_region_held_drew (S := (fun w' => w'.cell? ⟨w.heap.size, 0, none⟩ = some (.pointer (some ⟨L, 0, none⟩)) ∧ w'.cell? ⟨w.heap.size + 1, 0, none⟩ = some (.int .i64 f.fn) ∧ w'.cell? ⟨L, 0, none⟩ = some (.slice FA pg.fns.length fc))) (by kernel_rfl) ?_ (fun hHeld0 => ?_)
    · first | trivial | ((try dsimp only); (exact ⟨(HW.out.1.fresh BX).cell 0 rfl, (HW.out.2.1.fresh BX).cell 0 rfl, (HW.out.2.2.2.2.1.fresh BX).cell 0 rfl⟩))
    refine htk 0 rfl ?_
    try go_frame
    refine htk 1 rfl ?_
    try go_frame
    refine htk 2 rfl ?_
    try go_frame
    refine htk 3 rfl ?_
    try go_frame
    refine htk 4 rfl ?_
    try go_frame
    refine htk 5 rfl ?_
    try go_frame
    refine htk 6 rfl ?_
    try go_frame
    refine htk 7 rfl ?_
    try go_frame
    refine htk 8 rfl ?_
    try go_frame
    refine held_call 9 (by kernel_rfl) rfl (fun K hK => ?_)
    go_simp
    refine (HWI.out _).mono ?_; rintro e wA ⟨rfl, rfl⟩
    try (go_wp2_with fail)
    refine hK.out _ _ ?_ (fun hHeld1 => ?_)
    · first | trivial | ((try dsimp only); (exact ⟨(HW.out.1.fresh BX).cell 0 rfl, (HW.out.2.1.fresh BX).cell 0 rfl, (HW.out.2.2.2.2.1.fresh BX).cell 0 rfl⟩))
    clear hK K hHeld0
    try go_frame
    refine htk 10 rfl ?_
    try go_frame
    refine wpAnyH_done (by kernel_rfl) ?_ _
    go_wp2_with fail
    exact HN.out _ (HW.out.2.2.1.trans (BX.mono (by omega)))
end Top
end Go.Proofs.YtdlcooplllimeaaGreatDoor

/- state: the frame of a generator that waits; the cells. -/
namespace Go.Proofs.YtdlcooplllimeaaGreatDoor
open Go.RowKit

attribute [local go_sem ↓] Go.wp_at_zero Go.wp_at_succ

namespace Top
set_option maxHeartbeats 3200000 in
set_option maxRecDepth 100000 in
theorem saved_any (w : World) (L p M B rc tc : Nat) (RA TA : Option Addr) (pg : Pg) (s : Stt) (f : Fr) (h : LkA w L p M pg s) (hR : At w B RA f.regs) (hT : At w B TA f.tries) (hrc : f.regs.length ≤ rc ∧ rc ≤ maxLen) (htc : f.tries.length ≤ tc ∧ tc ≤ maxLen) (hB : B ≤ w.heap.size) (h1 : I64 f.self.1) (h2 : I64 f.self.2) (hcd : CdOk pg) (hcl : s.cells.length ≤ 300) :
    Calls Tryz.prog 135 #[.pointer (some ⟨L, 0, none⟩), .agg #[.int .i64 f.fn, .int .i64 f.at_, .int .i64 f.fto, .int .i64 f.gen, .int .i64 f.self.1, .int .i64 f.self.2, .slice RA f.regs.length rc, .slice TA f.tries.length tc]] w fun e w' => ∃ b : Bool, e = .returned (.bool b) ∧ (b = true → FrL pg s f ∧ f.gen < 0) ∧ Below w.heap.size w w' := by
  obtain ⟨P, hP⟩ : ∃ P : Ending → World → Prop, (fun e w' => ∃ b : Bool, e = .returned (.bool b) ∧ (b = true → FrL pg s f ∧ f.gen < 0) ∧ Below w.heap.size w w') = P := ⟨_, rfl⟩
  have HP := Lib.hid hP; rw [hP]; clear hP
  have hLlt := h.lt
  have hfin : ∀ w', Below w.heap.size w w' → P (.returned (.bool false)) w' := by
    intro w' h'
    rw [← HP.out]
    exact ⟨false, rfl, fun h => (by cases h), h'⟩
  have HN := Lib.hid hfin; clear hfin
  have H := Lib.hid (And.intro h (And.intro hR (And.intro hT (And.intro h1 (And.intro h2 (And.intro hcd (And.intro hrc htc))))))); clear h hR hT h1 h2 hcd hrc htc
  go_enter Tryz.func135, Tryz.ntmps135
  go_upto_region 1 with fail
  refine wp_world (fun W => Blk W w.heap.size 141 #[.int .i64 f.fn, .int .i64 f.at_, .int .i64 f.fto, .int .i64 f.gen, .int .i64 f.self.1, .int .i64 f.self.2, .slice RA f.regs.length rc, .slice TA f.tries.length tc] ∧ Below w.heap.size w W ∧ w.heap.size + 1 ≤ W.heap.size) ⟨Blk.new _ _ _, (Below.refl _ _).alloc (Nat.le_refl _) _, by simp⟩ ?_
  rintro W ⟨hF, hbW, hsW⟩
  have hfr := fun Z (hZ : Below W.heap.size W Z) => frame_any Z L p M B rc tc RA TA pg s f ((H.out.1.fresh hbW).fresh hZ) (H.out.2.1.below ((hbW.trans (hZ.mono (by omega))).mono hB)) (H.out.2.2.1.below ((hbW.trans (hZ.mono (by omega))).mono hB)) H.out.2.2.2.2.2.2.1 H.out.2.2.2.2.2.2.2 (by have := hZ.size; omega) H.out.2.2.2.1 H.out.2.2.2.2.1 H.out.2.2.2.2.2.1 hcl
  have hLW := H.out.1.fresh hbW
  obtain ⟨FA, CA, PA, XA, YA, fc, cc, pc, xc, yc, X, Y, k1, -, k3, -⟩ := hLW
  have HW := Lib.hid (And.intro hF (And.intro hbW (And.intro hfr (And.intro k1 k3)))); clear hF hbW hfr k1 k3
  have BX : Below W.heap.size W W.drew := (Below.refl _ _).drew
  by_cases hto : f.fto = -1
  · have t1 : (f.fto == -1) = true := by rw [hto]; rfl
    have t2 : (f.fto != -1) = false := by rw [hto]; rfl
    clear hto
    by_cases hge : f.gen = -1
    · have g1 : (f.gen == -1) = true := by rw [hge]; rfl
      have g2 : (f.gen != -1) = false := by rw [hge]; rfl
      have HG := Lib.hid hge; clear hge
      by_cases hfn : 0 ≤ f.fn ∧ f.fn < (pg.fns.length : Int)
      · obtain ⟨hfn0, hfn1⟩ := hfn
        obtain ⟨b, o, x, KA, kc, DA, dc, rfl, hbb, hx, x0, x1, x2, x3, x4, -, -, hD, -⟩ := HW.out.2.2.2.2.fn_ (k := f.fn.toNat) (by omega)
        cases hxg : x.gen with
        | false =>
          rw [hxg] at x2
          have HX := Lib.hid (And.intro x2 hx); clear x0 x1 x2 x3 x4 hx hD hxg
          refine wp_region_held_drew (S := (fun w' => w'.cell? ⟨w.heap.size, 0, none⟩ = some (.int .i64 f.fn) ∧ w'.cell? ⟨w.heap.size, 1, none⟩ = some (.int .i64 f.at_) ∧ w'.cell? ⟨w.heap.size, 2, none⟩ = some (.int .i64 f.fto) ∧ w'.cell? ⟨w.heap.size, 3, none⟩ = some (.int .i64 f.gen) ∧ w'.cell? ⟨w.heap.size, 4, none⟩ = some (.int .i64 f.self.1) ∧ w'.cell? ⟨w.heap.size, 5, none⟩ = some (.int .i64 f.self.2) ∧ w'.cell? ⟨w.heap.size, 6, none⟩ = some (.slice RA f.regs.length rc) ∧ w'.cell? ⟨w.heap.size, 7, none⟩ = some (.slice TA f.tries.length tc) ∧ w'.cell? ⟨L, 0, none⟩ = some (.slice (some ⟨b, o, none⟩) pg.fns.length fc) ∧ w'.cell? ⟨b, o + f.fn.toNat * 5 + 2, none⟩ = some (.bool false))) (by kernel_rfl) ?_ (fun hHeld0 => ?_)
          · first | trivial | ((try dsimp only); (exact ⟨(HW.out.1.fresh BX).cell 0 rfl, (HW.out.1.fresh BX).cell 1 rfl, (HW.out.1.fresh BX).cell 2 rfl, (HW.out.1.fresh BX).cell 3 rfl, (HW.out.1.fresh BX).cell 4 rfl, (HW.out.1.fresh BX).cell 5 rfl, (HW.out.1.fresh BX).cell 6 rfl, (HW.out.1.fresh BX).cell 7 rfl, (HW.out.2.2.2.1.fresh BX).cell 0 rfl, (BX.cell (p := ⟨b, o + f.fn.toNat * 5 + 2, none⟩) (by simp; omega)).trans HX.out.1⟩))
          refine htk 0 rfl ?_
          try go_frame
          refine htk 1 rfl ?_
          try go_frame
          refine held_call 2 (by kernel_rfl) rfl (fun K hK => ?_)
          go_simp
          refine (HW.out.2.2.1 _ BX).mono ?_; rintro e wA ⟨bS, rfl, hq, hbA⟩; have BY := BX.trans (hbA.mono BX.size); clear BX; have BX := BY; clear BY
          cases bS with
          | false =>
            try (go_wp2_with fail)
            refine hK.out _ _ ?_ (fun hHeld1 => ?_)
            · first | trivial | ((try dsimp only); (exact ⟨(HW.out.1.fresh BX).cell 0 rfl, (HW.out.1.fresh BX).cell 1 rfl, (HW.out.1.fresh BX).cell 2 rfl, (HW.out.1.fresh BX).cell 3 rfl, (HW.out.1.fresh BX).cell 4 rfl, (HW.out.1.fresh BX).cell 5 rfl, (HW.out.1.fresh BX).cell 6 rfl, (HW.out.1.fresh BX).cell 7 rfl, (HW.out.2.2.2.1.fresh BX).cell 0 rfl, (BX.cell (p := ⟨b, o + f.fn.toNat * 5 + 2, none⟩) (by simp; omega)).trans HX.out.1⟩))
            clear hK K hHeld0
            try go_frame
            refine htk 3 rfl ?_
            try go_frame
            refine htk 4 rfl ?_
            try go_frame
            refine hsk 5 rfl ?_
            try go_frame
            refine hsk 6 rfl ?_
            try go_frame
            refine hsk 7 rfl ?_
            try go_frame
            refine htk 8 rfl ?_
            try go_frame
            refine htk 9 rfl ?_
            try go_frame
            refine hsk 10 rfl ?_
            try go_frame
            refine hsk 11 rfl ?_
            try go_frame
            refine hsk 12 rfl ?_
            try go_frame
            refine htk 13 rfl ?_
            try go_frame
            refine htk 14 rfl ?_
            try go_frame
            refine hsk 15 rfl ?_
            try go_frame
            refine hsk 16 rfl ?_
            try go_frame
            refine hsk 17 rfl ?_
            try go_frame
            refine hsk 18 rfl ?_
            try go_frame
            refine hsk 19 rfl ?_
            try go_frame
            refine hsk 20 rfl ?_
            try go_frame
            refine hsk 21 rfl ?_
            try go_frame
            refine hsk 22 rfl ?_
            try go_frame
            refine hsk 23 rfl ?_
            try go_frame
            refine hsk 24 rfl ?_
            try go_frame
            refine hsk 25 rfl ?_
            try go_frame
            refine htk 26 rfl ?_
            try go_frame
            refine wpAnyH_done (by kernel_rfl) ?_ _
            clear hq
            go_wp2_with fail
            exact HN.out _ (HW.out.2.1.trans (BX.mono (by omega)))
          | true =>
            try (go_wp2_with fail)
            refine hK.out _ _ ?_ (fun hHeld1 => ?_)
            · first | trivial | ((try dsimp only); (exact ⟨(HW.out.1.fresh BX).cell 0 rfl, (HW.out.1.fresh BX).cell 1 rfl, (HW.out.1.fresh BX).cell 2 rfl, (HW.out.1.fresh BX).cell 3 rfl, (HW.out.1.fresh BX).cell 4 rfl, (HW.out.1.fresh BX).cell 5 rfl, (HW.out.1.fresh BX).cell 6 rfl, (HW.out.1.fresh BX).cell 7 rfl, (HW.out.2.2.2.1.fresh BX).cell 0 rfl, (BX.cell (p := ⟨b, o + f.fn.toNat * 5 + 2, none⟩) (by simp; omega)).trans HX.out.1⟩))
            clear hK K hHeld0
            try go_frame
            refine htk 3 rfl ?_
            try go_frame
            refine htk 4 rfl ?_
            try go_frame
            refine htk 5 rfl ?_
            try go_frame
            refine htk 6 rfl ?_
            try go_frame
            refine htk 7 rfl ?_
            try go_frame
            refine htk 8 rfl ?_
            try go_frame
            refine htk 9 rfl ?_
            try go_frame
            refine htk 10 rfl ?_
            try go_frame
            refine htk 11 rfl ?_
            try go_frame
            refine htk 12 rfl ?_
            try go_frame
            refine htk 13 rfl ?_
            try go_frame
            refine htk 14 rfl ?_
            try go_frame
            refine htk 15 rfl ?_
            try go_frame
            refine htk 16 rfl ?_
            try go_frame
            refine htk 17 rfl ?_
            try go_frame
            refine htk 18 rfl ?_
            try go_frame
            refine htk 19 rfl ?_
            try go_frame
            refine htk 20 rfl ?_
            try go_frame
            refine htk 21 rfl ?_
            try go_frame
            refine htk 22 rfl ?_
            try go_frame
            refine htk 23 rfl ?_
            try go_frame
            refine htk 24 rfl ?_
            try go_frame
            refine htk 25 rfl ?_
            try go_frame
            refine htk 26 rfl ?_
            try go_frame
            refine wpAnyH_done (by kernel_rfl) ?_ _
            clear hq
            go_wp2_with fail
            exact HN.out _ (HW.out.2.1.trans (BX.mono (by omega)))
        | true =>
          rw [hxg] at x2
          have HX := Lib.hid (And.intro x2 (And.intro hx (And.intro x4 hD))); clear x0 x1 x2 x3 x4 hx hD hxg
          refine wp_region_held_drew (S := (fun w' => w'.cell? ⟨w.heap.size, 0, none⟩ = some (.int .i64 f.fn) ∧ w'.cell? ⟨w.heap.size, 1, none⟩ = some (.int .i64 f.at_) ∧ w'.cell? ⟨w.heap.size, 2, none⟩ = some (.int .i64 f.fto) ∧ w'.cell? ⟨w.heap.size, 3, none⟩ = some (.int .i64 f.gen) ∧ w'.cell? ⟨w.heap.size, 4, none⟩ = some (.int .i64 f.self.1) ∧ w'.cell? ⟨w.heap.size, 5, none⟩ = some (.int .i64 f.self.2) ∧ w'.cell? ⟨w.heap.size, 6, none⟩ = some (.slice RA f.regs.length rc) ∧ w'.cell? ⟨w.heap.size, 7, none⟩ = some (.slice TA f.tries.length tc) ∧ w'.cell? ⟨L, 0, none⟩ = some (.slice (some ⟨b, o, none⟩) pg.fns.length fc) ∧ w'.cell? ⟨b, o + f.fn.toNat * 5 + 2, none⟩ = some (.bool true))) (by kernel_rfl) ?_ (fun hHeld0 => ?_)
          · first | trivial | ((try dsimp only); (exact ⟨(HW.out.1.fresh BX).cell 0 rfl, (HW.out.1.fresh BX).cell 1 rfl, (HW.out.1.fresh BX).cell 2 rfl, (HW.out.1.fresh BX).cell 3 rfl, (HW.out.1.fresh BX).cell 4 rfl, (HW.out.1.fresh BX).cell 5 rfl, (HW.out.1.fresh BX).cell 6 rfl, (HW.out.1.fresh BX).cell 7 rfl, (HW.out.2.2.2.1.fresh BX).cell 0 rfl, (BX.cell (p := ⟨b, o + f.fn.toNat * 5 + 2, none⟩) (by simp; omega)).trans HX.out.1⟩))
          refine htk 0 rfl ?_
          try go_frame
          refine htk 1 rfl ?_
          try go_frame
          refine held_call 2 (by kernel_rfl) rfl (fun K hK => ?_)
          go_simp
          refine (HW.out.2.2.1 _ BX).mono ?_; rintro e wA ⟨bS, rfl, hq, hbA⟩; have BY := BX.trans (hbA.mono BX.size); clear BX; have BX := BY; clear BY
          cases bS with
          | false =>
            try (go_wp2_with fail)
            refine hK.out _ _ ?_ (fun hHeld1 => ?_)
            · first | trivial | ((try dsimp only); (exact ⟨(HW.out.1.fresh BX).cell 0 rfl, (HW.out.1.fresh BX).cell 1 rfl, (HW.out.1.fresh BX).cell 2 rfl, (HW.out.1.fresh BX).cell 3 rfl, (HW.out.1.fresh BX).cell 4 rfl, (HW.out.1.fresh BX).cell 5 rfl, (HW.out.1.fresh BX).cell 6 rfl, (HW.out.1.fresh BX).cell 7 rfl, (HW.out.2.2.2.1.fresh BX).cell 0 rfl, (BX.cell (p := ⟨b, o + f.fn.toNat * 5 + 2, none⟩) (by simp; omega)).trans HX.out.1⟩))
            clear hK K hHeld0
            try go_frame
            refine htk 3 rfl ?_
            try go_frame
            refine htk 4 rfl ?_
            try go_frame
            refine hsk 5 rfl ?_
            try go_frame
            refine hsk 6 rfl ?_
            try go_frame
            refine hsk 7 rfl ?_
            try go_frame
            refine htk 8 rfl ?_
            try go_frame
            refine htk 9 rfl ?_
            try go_frame
            refine hsk 10 rfl ?_
            try go_frame
            refine hsk 11 rfl ?_
            try go_frame
            refine hsk 12 rfl ?_
            try go_frame
            refine htk 13 rfl ?_
            try go_frame
            refine htk 14 rfl ?_
            try go_frame
            refine hsk 15 rfl ?_
            try go_frame
            refine hsk 16 rfl ?_
            try go_frame
            refine hsk 17 rfl ?_
            try go_frame
            refine hsk 18 rfl ?_
            try go_frame
            refine hsk 19 rfl ?_
            try go_frame
            refine hsk 20 rfl ?_
            try go_frame
            refine hsk 21 rfl ?_
            try go_frame
            refine hsk 22 rfl ?_
            try go_frame
            refine hsk 23 rfl ?_
            try go_frame
            refine hsk 24 rfl ?_
            try go_frame
            refine hsk 25 rfl ?_
            try go_frame
            refine htk 26 rfl ?_
            try go_frame
            refine wpAnyH_done (by kernel_rfl) ?_ _
            clear hq
            go_wp2_with fail
            exact HN.out _ (HW.out.2.1.trans (BX.mono (by omega)))
          | true =>
            try (go_wp2_with fail)
            refine hK.out _ _ ?_ (fun hHeld1 => ?_)
            · first | trivial | ((try dsimp only); (exact ⟨(HW.out.1.fresh BX).cell 0 rfl, (HW.out.1.fresh BX).cell 1 rfl, (HW.out.1.fresh BX).cell 2 rfl, (HW.out.1.fresh BX).cell 3 rfl, (HW.out.1.fresh BX).cell 4 rfl, (HW.out.1.fresh BX).cell 5 rfl, (HW.out.1.fresh BX).cell 6 rfl, (HW.out.1.fresh BX).cell 7 rfl, (HW.out.2.2.2.1.fresh BX).cell 0 rfl, (BX.cell (p := ⟨b, o + f.fn.toNat * 5 + 2, none⟩) (by simp; omega)).trans HX.out.1⟩))
            clear hK K hHeld0
            try go_frame
            refine htk 3 rfl ?_
            try go_frame
            refine htk 4 rfl ?_
            try go_frame
            refine htk 5 rfl ?_
            try go_frame
            refine htk 6 rfl ?_
            try go_frame
            refine htk 7 rfl ?_
            try go_frame
            refine htk 8 rfl ?_
            try go_frame
            refine htk 9 rfl ?_
            try go_frame
            refine htk 10 rfl ?_
            try go_frame
            refine htk 11 rfl ?_
            try go_frame
            refine htk 12 rfl ?_
            try go_frame
            refine htk 13 rfl ?_
            try go_frame
            refine htk 14 rfl ?_
            try go_frame
            refine htk 15 rfl ?_
            try go_frame
            refine htk 16 rfl ?_
            try go_frame
            refine htk 17 rfl ?_
            try go_frame
            refine htk 18 rfl ?_
            try go_frame
            refine htk 19 rfl ?_
            try go_frame
            refine htk 20 rfl ?_
            try go_frame
            refine htk 21 rfl ?_
            try go_frame
            refine htk 22 rfl ?_
            try go_frame
            refine htk 23 rfl ?_
            try go_frame
            refine htk 24 rfl ?_
            try go_frame
            refine htk 25 rfl ?_
            try go_frame
            refine htk 26 rfl ?_
            try go_frame
            refine wpAnyH_done (by kernel_rfl) ?_ _
            have hFL := hq (by simp)
            clear hq
            go_upto_region 3 with fail
            refine wp_world (fun Z => Below W.heap.size W Z) BX ?_
            clear BX
            rintro Z hZ
            have hZs := hZ.size
            obtain ⟨⟨m, k, y, hm, hy, hk, hkl⟩, -⟩ := id hFL
            have hmx : y = x := by
              have e : m = f.fn.toNat := by omega
              rw [e, HX.out.2.1] at hy
              exact (Option.some.inj hy).symm
            subst hmx
            have z0 := (HW.out.1.fresh hZ).cell 0 (v := .int .i64 f.fn) rfl
            have z1 := (HW.out.1.fresh hZ).cell 1 (v := .int .i64 (k : Int)) (by rw [← hk]; rfl)
            have zL := (HW.out.2.2.2.1.fresh hZ).cell 0 (v := .slice (some ⟨b, o, none⟩) pg.fns.length fc) rfl
            have zc := (hZ.cell (p := ⟨b, o + f.fn.toNat * 5 + 4, none⟩) (by simp; omega)).trans HX.out.2.2.1
            have HE := Lib.hid (And.intro hFL (HW.out.2.1.trans (hZ.mono (by omega)))); clear hFL hm hy hk g1 g2 t1 t2
            cases k with
            | zero =>
              clear zL zc z0
              go_quiet (fail)
              go_wp2_with fail
              rw [← HP.out]
              exact ⟨_, rfl, fun _ => ⟨HE.out.1, by rw [HG.out]; decide⟩, below_drewN HE.out.2 _⟩
            | succ j =>
              obtain ⟨db, do_, i, rfl, hdb, -, e0, -⟩ := (HX.out.2.2.2.below hZ).in_ (k := j) (by omega)
              have d0 : (((j + 1 : Nat) : Int) == 0) = false := by rw [beq_eq_false_iff_ne]; omega
              have d1 : ((j : Int) + 1 == 0) = false := by rw [beq_eq_false_iff_ne]; omega
              have hc6 : y.code.length ≤ 600 := (H.out.2.2.2.2.2.1.fn y (List.mem_of_getElem? HX.out.2.1)).2.1
              have w1 : IntKind.i64.wrap ((j : Int) + 1 - 1) = (j : Int) := by rw [IntWalk.i64_in _ (by omega)]; omega
              have w2 : IntKind.i64.wrap (j : Int) = (j : Int) := IntWalk.i64_in _ (by clear w1; omega)
              have j0 : (0 : Int) ≤ (j : Int) := by clear w1 w2; omega
              have j1 : (j : Int) < (y.code.length : Int) := by clear w1 w2; omega
              go_quiet (fail)
              go_wp2_with fail
              rw [← HP.out]
              exact ⟨_, rfl, fun _ => ⟨HE.out.1, by rw [HG.out]; decide⟩, below_drewN HE.out.2 _⟩
      · have hno : ¬ FrL pg s f := by
          rintro ⟨⟨m, k, x, h1, h2, -⟩, -⟩
          have := (List.getElem?_eq_some_iff.1 h2).1
          omega
        have HNO := Lib.hid hno; clear hno hfn
        refine wp_region_held_drew (S := (fun w' => w'.cell? ⟨w.heap.size, 0, none⟩ = some (.int .i64 f.fn) ∧ w'.cell? ⟨w.heap.size, 1, none⟩ = some (.int .i64 f.at_) ∧ w'.cell? ⟨w.heap.size, 2, none⟩ = some (.int .i64 f.fto) ∧ w'.cell? ⟨w.heap.size, 3, none⟩ = some (.int .i64 f.gen) ∧ w'.cell? ⟨w.heap.size, 4, none⟩ = some (.int .i64 f.self.1) ∧ w'.cell? ⟨w.heap.size, 5, none⟩ = some (.int .i64 f.self.2) ∧ w'.cell? ⟨w.heap.size, 6, none⟩ = some (.slice RA f.regs.length rc) ∧ w'.cell? ⟨w.heap.size, 7, none⟩ = some (.slice TA f.tries.length tc))) (by kernel_rfl) ?_ (fun hHeld0 => ?_)
        · first | trivial | ((try dsimp only); (exact ⟨(HW.out.1.fresh BX).cell 0 rfl, (HW.out.1.fresh BX).cell 1 rfl, (HW.out.1.fresh BX).cell 2 rfl, (HW.out.1.fresh BX).cell 3 rfl, (HW.out.1.fresh BX).cell 4 rfl, (HW.out.1.fresh BX).cell 5 rfl, (HW.out.1.fresh BX).cell 6 rfl, (HW.out.1.fresh BX).cell 7 rfl⟩))
        refine htk 0 rfl ?_
        try go_frame
        refine htk 1 rfl ?_
        try go_frame
        refine held_call 2 (by kernel_rfl) rfl (fun K hK => ?_)
        go_simp
        refine (HW.out.2.2.1 _ BX).mono ?_; rintro e wA ⟨bS, rfl, hq, hbA⟩; obtain rfl : bS = false := Bool.eq_false_iff.2 (fun h => HNO.out (hq h)); have BY := BX.trans (hbA.mono BX.size); clear BX; have BX := BY; clear BY
        try (go_wp2_with fail)
        refine hK.out _ _ ?_ (fun hHeld1 => ?_)
        · first | trivial | ((try dsimp only); (exact ⟨(HW.out.1.fresh BX).cell 0 rfl, (HW.out.1.fresh BX).cell 1 rfl, (HW.out.1.fresh BX).cell 2 rfl, (HW.out.1.fresh BX).cell 3 rfl, (HW.out.1.fresh BX).cell 4 rfl, (HW.out.1.fresh BX).cell 5 rfl, (HW.out.1.fresh BX).cell 6 rfl, (HW.out.1.fresh BX).cell 7 rfl⟩))
        clear hK K hHeld0
        try go_frame
        refine htk 3 rfl ?_
        try go_frame
        refine htk 4 rfl ?_
        try go_frame
        refine hsk 5 rfl ?_
        try go_frame
        refine hsk 6 rfl ?_
        try go_frame
        refine hsk 7 rfl ?_
        try go_frame
        refine htk 8 rfl ?_
        try go_frame
        refine htk 9 rfl ?_
        try go_frame
        refine hsk 10 rfl ?_
        try go_frame
        refine hsk 11 rfl ?_
        try go_frame
        refine hsk 12 rfl ?_
        try go_frame
        refine htk 13 rfl ?_
        try go_frame
        refine htk 14 rfl ?_
        try go_frame
        refine hsk 15 rfl ?_
        try go_frame
        refine hsk 16 rfl ?_
        try go_frame
        refine hsk 17 rfl ?_
        try go_frame
        refine hsk 18 rfl ?_
        try go_frame
        refine hsk 19 rfl ?_
        try go_frame
        refine hsk 20 rfl ?_
        try go_frame
        refine hsk 21 rfl ?_
        try go_frame
        refine hsk 22 rfl ?_
        try go_frame
        refine hsk 23 rfl ?_
        try go_frame
        refine hsk 24 rfl ?_
        try go_frame
        refine hsk 25 rfl ?_
        try go_frame
        refine htk 26 rfl ?_
        try go_frame
        refine wpAnyH_done (by kernel_rfl) ?_ _
        clear hq
        go_wp2_with fail
        exact HN.out _ (HW.out.2.1.trans (BX.mono (by omega)))
    · have g1 : (f.gen == -1) = false := by simpa using hge
      have g2 : (f.gen != -1) = true := by simpa using hge
      clear hge
      refine wp_region_held_drew (S := (fun w' => w'.cell? ⟨w.heap.size, 0, none⟩ = some (.int .i64 f.fn) ∧ w'.cell? ⟨w.heap.size, 1, none⟩ = some (.int .i64 f.at_) ∧ w'.cell? ⟨w.heap.size, 2, none⟩ = some (.int .i64 f.fto) ∧ w'.cell? ⟨w.heap.size, 3, none⟩ = some (.int .i64 f.gen) ∧ w'.cell? ⟨w.heap.size, 4, none⟩ = some (.int .i64 f.self.1) ∧ w'.cell? ⟨w.heap.size, 5, none⟩ = some (.int .i64 f.self.2) ∧ w'.cell? ⟨w.heap.size, 6, none⟩ = some (.slice RA f.regs.length rc) ∧ w'.cell? ⟨w.heap.size, 7, none⟩ = some (.slice TA f.tries.length tc))) (by kernel_rfl) ?_ (fun hHeld0 => ?_)
      · first | trivial | ((try dsimp only); (exact ⟨(HW.out.1.fresh BX).cell 0 rfl, (HW.out.1.fresh BX).cell 1 rfl, (HW.out.1.fresh BX).cell 2 rfl, (HW.out.1.fresh BX).cell 3 rfl, (HW.out.1.fresh BX).cell 4 rfl, (HW.out.1.fresh BX).cell 5 rfl, (HW.out.1.fresh BX).cell 6 rfl, (HW.out.1.fresh BX).cell 7 rfl⟩))
      refine htk 0 rfl ?_
      try go_frame
      refine htk 1 rfl ?_
      try go_frame
      refine held_call 2 (by kernel_rfl) rfl (fun K hK => ?_)
      go_simp
      refine (HW.out.2.2.1 _ BX).mono ?_; rintro e wA ⟨bS, rfl, hq, hbA⟩; have BY := BX.trans (hbA.mono BX.size); clear BX; have BX := BY; clear BY
      cases bS with
      | false =>
        try (go_wp2_with fail)
        refine hK.out _ _ ?_ (fun hHeld1 => ?_)
        · first | trivial | ((try dsimp only); (exact ⟨(HW.out.1.fresh BX).cell 0 rfl, (HW.out.1.fresh BX).cell 1 rfl, (HW.out.1.fresh BX).cell 2 rfl, (HW.out.1.fresh BX).cell 3 rfl, (HW.out.1.fresh BX).cell 4 rfl, (HW.out.1.fresh BX).cell 5 rfl, (HW.out.1.fresh BX).cell 6 rfl, (HW.out.1.fresh BX).cell 7 rfl⟩))
        clear hK K hHeld0
        try go_frame
        refine htk 3 rfl ?_
        try go_frame
        refine htk 4 rfl ?_
        try go_frame
        refine hsk 5 rfl ?_
        try go_frame
        refine hsk 6 rfl ?_
        try go_frame
        refine hsk 7 rfl ?_
        try go_frame
        refine htk 8 rfl ?_
        try go_frame
        refine htk 9 rfl ?_
        try go_frame
        refine hsk 10 rfl ?_
        try go_frame
        refine hsk 11 rfl ?_
        try go_frame
        refine hsk 12 rfl ?_
        try go_frame
        refine htk 13 rfl ?_
        try go_frame
        refine htk 14 rfl ?_
        try go_frame
        refine hsk 15 rfl ?_
        try go_frame
        refine hsk 16 rfl ?_
        try go_frame
        refine hsk 17 rfl ?_
        try go_frame
        refine hsk 18 rfl ?_
        try go_frame
        refine hsk 19 rfl ?_
        try go_frame
        refine hsk 20 rfl ?_
        try go_frame
        refine hsk 21 rfl ?_
        try go_frame
        refine hsk 22 rfl ?_
        try go_frame
        refine hsk 23 rfl ?_
        try go_frame
        refine hsk 24 rfl ?_
        try go_frame
        refine hsk 25 rfl ?_
        try go_frame
        refine htk 26 rfl ?_
        try go_frame
        refine wpAnyH_done (by kernel_rfl) ?_ _
        clear hq
        go_wp2_with fail
        exact HN.out _ (HW.out.2.1.trans (BX.mono (by omega)))
      | true =>
        try (go_wp2_with fail)
        refine hK.out _ _ ?_ (fun hHeld1 => ?_)
        · first | trivial | ((try dsimp only); (exact ⟨(HW.out.1.fresh BX).cell 0 rfl, (HW.out.1.fresh BX).cell 1 rfl, (HW.out.1.fresh BX).cell 2 rfl, (HW.out.1.fresh BX).cell 3 rfl, (HW.out.1.fresh BX).cell 4 rfl, (HW.out.1.fresh BX).cell 5 rfl, (HW.out.1.fresh BX).cell 6 rfl, (HW.out.1.fresh BX).cell 7 rfl⟩))
        clear hK K hHeld0
        try go_frame
        refine htk 3 rfl ?_
        try go_frame
        refine htk 4 rfl ?_
        try go_frame
        refine htk 5 rfl ?_
        try go_frame
        refine htk 6 rfl ?_
        try go_frame
        refine htk 7 rfl ?_
        try go_frame
        refine htk 8 rfl ?_
        try go_frame
        refine htk 9 rfl ?_
        try go_frame
        refine htk 10 rfl ?_
        try go_frame
        refine htk 11 rfl ?_
        try go_frame
        refine htk 12 rfl ?_
        try go_frame
        refine htk 13 rfl ?_
        try go_frame
        refine htk 14 rfl ?_
        try go_frame
        refine hsk 15 rfl ?_
        try go_frame
        refine hsk 16 rfl ?_
        try go_frame
        refine hsk 17 rfl ?_
        try go_frame
        refine hsk 18 rfl ?_
        try go_frame
        refine hsk 19 rfl ?_
        try go_frame
        refine hsk 20 rfl ?_
        try go_frame
        refine hsk 21 rfl ?_
        try go_frame
        refine hsk 22 rfl ?_
        try go_frame
        refine hsk 23 rfl ?_
        try go_frame
        refine hsk 24 rfl ?_
        try go_frame
        refine hsk 25 rfl ?_
        try go_frame
        refine htk 26 rfl ?_
        try go_frame
        refine wpAnyH_done (by kernel_rfl) ?_ _
        clear hq
        go_wp2_with fail
        exact HN.out _ (HW.out.2.1.trans (BX.mono (by omega)))
  · have t1 : (f.fto == -1) = false := by simpa using hto
    have t2 : (f.fto != -1) = true := by simpa using hto
    clear hto
    refine wp_region_held_drew (S := (fun w' => w'.cell? ⟨w.heap.size, 0, none⟩ = some (.int .i64 f.fn) ∧ w'.cell? ⟨w.heap.size, 1, none⟩ = some (.int .i64 f.at_) ∧ w'.cell? ⟨w.heap.size, 2, none⟩ = some (.int .i64 f.fto) ∧ w'.cell? ⟨w.heap.size, 3, none⟩ = some (.int .i64 f.gen) ∧ w'.cell? ⟨w.heap.size, 4, none⟩ = some (.int .i64 f.self.1) ∧ w'.cell? ⟨w.heap.size, 5, none⟩ = some (.int .i64 f.self.2) ∧ w'.cell? ⟨w.heap.size, 6, none⟩ = some (.slice RA f.regs.length rc) ∧ w'.cell? ⟨w.heap.size, 7, none⟩ = some (.slice TA f.tries.length tc))) (by kernel_rfl) ?_ (fun hHeld0 => ?_)
    · first | trivial | ((try dsimp only); (exact ⟨(HW.out.1.fresh BX).cell 0 rfl, (HW.out.1.fresh BX).cell 1 rfl, (HW.out.1.fresh BX).cell 2 rfl, (HW.out.1.fresh BX).cell 3 rfl, (HW.out.1.fresh BX).cell 4 rfl, (HW.out.1.fresh BX).cell 5 rfl, (HW.out.1.fresh BX).cell 6 rfl, (HW.out.1.fresh BX).cell 7 rfl⟩))
    refine htk 0 rfl ?_
    try go_frame
    refine htk 1 rfl ?_
    try go_frame
    refine held_call 2 (by kernel_rfl) rfl (fun K hK => ?_)
    go_simp
    refine (HW.out.2.2.1 _ BX).mono ?_; rintro e wA ⟨bS, rfl, hq, hbA⟩; have BY := BX.trans (hbA.mono BX.size); clear BX; have BX := BY; clear BY
    cases bS with
    | false =>
      try (go_wp2_with fail)
      refine hK.out _ _ ?_ (fun hHeld1 => ?_)
      · first | trivial | ((try dsimp only); (exact ⟨(HW.out.1.fresh BX).cell 0 rfl, (HW.out.1.fresh BX).cell 1 rfl, (HW.out.1.fresh BX).cell 2 rfl, (HW.out.1.fresh BX).cell 3 rfl, (HW.out.1.fresh BX).cell 4 rfl, (HW.out.1.fresh BX).cell 5 rfl, (HW.out.1.fresh BX).cell 6 rfl, (HW.out.1.fresh BX).cell 7 rfl⟩))
      clear hK K hHeld0
      try go_frame
      refine htk 3 rfl ?_
      try go_frame
      refine htk 4 rfl ?_
      try go_frame
      refine hsk 5 rfl ?_
      try go_frame
      refine hsk 6 rfl ?_
      try go_frame
      refine hsk 7 rfl ?_
      try go_frame
      refine htk 8 rfl ?_
      try go_frame
      refine htk 9 rfl ?_
      try go_frame
      refine hsk 10 rfl ?_
      try go_frame
      refine hsk 11 rfl ?_
      try go_frame
      refine hsk 12 rfl ?_
      try go_frame
      refine htk 13 rfl ?_
      try go_frame
      refine htk 14 rfl ?_
      try go_frame
      refine hsk 15 rfl ?_
      try go_frame
      refine hsk 16 rfl ?_
      try go_frame
      refine hsk 17 rfl ?_
      try go_frame
      refine hsk 18 rfl ?_
      try go_frame
      refine hsk 19 rfl ?_
      try go_frame
      refine hsk 20 rfl ?_
      try go_frame
      refine hsk 21 rfl ?_
      try go_frame
      refine hsk 22 rfl ?_
      try go_frame
      refine hsk 23 rfl ?_
      try go_frame
      refine hsk 24 rfl ?_
      try go_frame
      refine hsk 25 rfl ?_
      try go_frame
      refine htk 26 rfl ?_
      try go_frame
      refine wpAnyH_done (by kernel_rfl) ?_ _
      clear hq
      go_wp2_with fail
      exact HN.out _ (HW.out.2.1.trans (BX.mono (by omega)))
    | true =>
      try (go_wp2_with fail)
      refine hK.out _ _ ?_ (fun hHeld1 => ?_)
      · first | trivial | ((try dsimp only); (exact ⟨(HW.out.1.fresh BX).cell 0 rfl, (HW.out.1.fresh BX).cell 1 rfl, (HW.out.1.fresh BX).cell 2 rfl, (HW.out.1.fresh BX).cell 3 rfl, (HW.out.1.fresh BX).cell 4 rfl, (HW.out.1.fresh BX).cell 5 rfl, (HW.out.1.fresh BX).cell 6 rfl, (HW.out.1.fresh BX).cell 7 rfl⟩))
      clear hK K hHeld0
      try go_frame
      refine htk 3 rfl ?_
      try go_frame
      refine htk 4 rfl ?_
      try go_frame
      refine htk 5 rfl ?_
      try go_frame
      refine htk 6 rfl ?_
      try go_frame
      refine htk 7 rfl ?_
      try go_frame
      refine htk 8 rfl ?_
      try go_frame
      refine htk 9 rfl ?_
      try go_frame
      refine hsk 10 rfl ?_
      try go_frame
      refine hsk 11 rfl ?_
      try go_frame
      refine hsk 12 rfl ?_
      try go_frame
      refine htk 13 rfl ?_
      try go_frame
      refine htk 14 rfl ?_
      try go_frame
      refine hsk 15 rfl ?_
      try go_frame
      refine hsk 16 rfl ?_
      try go_frame
      refine hsk 17 rfl ?_
      try go_frame
      refine hsk 18 rfl ?_
      try go_frame
      refine hsk 19 rfl ?_
      try go_frame
      refine hsk 20 rfl ?_
      try go_frame
      refine hsk 21 rfl ?_
      try go_frame
      refine hsk 22 rfl ?_
      try go_frame
      refine hsk 23 rfl ?_
      try go_frame
      refine hsk 24 rfl ?_
      try go_frame
      refine hsk 25 rfl ?_
      try go_frame
      refine htk 26 rfl ?_
      try go_frame
      refine wpAnyH_done (by kernel_rfl) ?_ _
      clear hq
      go_wp2_with fail
      exact HN.out _ (HW.out.2.1.trans (BX.mono (by omega)))
end Top
end Go.Proofs.YtdlcooplllimeaaGreatDoor

/- state: the cells, as their frames and functions are. -/
namespace Go.Proofs.YtdlcooplllimeaaGreatDoor
open Go.RowKit

attribute [local go_sem ↓] Go.wp_at_zero Go.wp_at_succ

namespace Top
/-- what is known of a cell that was looked at -/
def HpL (pg : Pg) (s : Stt) (c : Ce) : Prop := c.kind = 5 → c.num = 0 → ∀ f ∈ c.frames, FrL pg s f ∧ f.gen < 0
set_option maxHeartbeats 3200000 in
set_option maxRecDepth 100000 in
theorem heap_any (w : World) (L p M B vc fc : Nat) (VA FA : Option Addr) (pg : Pg) (s : Stt) (c : Ce) (h : LkA w L p M pg s) (hF : At w B FA c.frames) (hB : B ≤ w.heap.size) (hce : CeOk s c) (hcd : CdOk pg) (hcl : s.cells.length ≤ 300) :
    Calls Tryz.prog 90 #[.pointer (some ⟨L, 0, none⟩), .agg #[.int .i64 c.kind, .int .i64 c.num, .slice VA c.vals.length vc, .slice FA c.frames.length fc]] w fun e w' => ∃ b : Bool, e = .returned (.bool b) ∧ (b = true → HpL pg s c) ∧ Below w.heap.size w w' := by
  obtain ⟨P, hP⟩ : ∃ P : Ending → World → Prop, (fun e w' => ∃ b : Bool, e = .returned (.bool b) ∧ (b = true → HpL pg s c) ∧ Below w.heap.size w w') = P := ⟨_, rfl⟩
  have HP := Lib.hid hP; rw [hP]; clear hP
  have hLlt := h.lt
  have hb0 : ∀ o, Below w.heap.size w (w.alloc o) := fun o => (Below.refl _ _).alloc (Nat.le_refl _) o
  by_cases k4 : c.kind = 4
  · have d4 : (c.kind == 4) = true := by rw [k4]; rfl
    have hno : HpL pg s c := fun h => by rw [k4] at h; cases h
    have hn0 := hce.2.2.2.2 k4
    have HN := Lib.hid (And.intro hno hn0); clear hno k4 hn0
    obtain ⟨n, hn⟩ : ∃ n : Nat, c.num = n := ⟨c.num.toNat, by have := HN.out.2; omega⟩
    obtain ⟨GA, CA, PA, XA, YA, gc, cc, pc, xc, yc, X, Y, k1, -, k3, -⟩ := h
    have l0 := k1.cell 0 (v := .slice GA pg.fns.length gc) rfl
    by_cases hlt : n < pg.fns.length
    · obtain ⟨b, o, x, KA, kc, DA, dc, rfl, hbb, hx, -, -, -, x3, -⟩ := k3.fn_ hlt
      have n0 : (0 : Int) ≤ (n : Int) := by omega
      have n1 : (n : Int) < (pg.fns.length : Int) := by omega
      have H := Lib.hid (And.intro hb0 hn); clear hb0 k1 k3 hx hF hce
      rw [hn]
      clear hn
      go_enter Tryz.func90, Tryz.ntmps90
      go_wp2_with fail
      go_quiet (fail)
      go_wp2_with fail
      rw [← HP.out]
      exact ⟨_, rfl, fun _ => HN.out.1, below_drewN (H.out.1 _) _⟩
    · have d1 : decide (n < pg.fns.length) = false := decide_eq_false hlt
      have H := Lib.hid (And.intro hb0 hn); clear hb0 k1 k3 hF hce
      rw [hn]
      clear hn hlt
      go_enter Tryz.func90, Tryz.ntmps90
      go_wp2_with fail
      go_quiet (fail)
      go_wp2_with fail
      rw [← HP.out]
      exact ⟨_, rfl, fun _ => HN.out.1, below_drewN (H.out.1 _) _⟩
  have d4 : (c.kind == 4) = false := by simpa using k4
  clear k4
  by_cases k5 : c.kind = 5
  · have d5 : (c.kind == 5) = true := by rw [k5]; rfl
    by_cases n0 : c.num = 0
    · have dn : (c.num == 0) = true := by rw [n0]; rfl
      have dn2 : (c.num != 0) = false := by rw [n0]; rfl
      have hl1 : c.frames.length = 1 := by have := hce.2.2.1; rw [if_pos ⟨k5, n0⟩] at this; exact this
      obtain ⟨b, o, f, RA, rc, TA, tc, rfl, hbb, hf, e0, e1, e2, e3, e4, e5, e6, e7, aR, lR, aT, lT, i0, i1, i2, i3, i4, i5⟩ := hF.fr_ (k := 0) (by omega)
      rw [Nat.zero_mul, Nat.add_zero] at e0 e1 e2 e3 e4 e5 e6 e7
      have hall : ∀ g ∈ c.frames, g = f := by
        intro g hg
        obtain ⟨j, hj⟩ := List.mem_iff_getElem?.1 hg
        have : j < c.frames.length := (List.getElem?_eq_some_iff.1 hj).1
        obtain rfl : j = 0 := by omega
        rw [hf] at hj; exact (Option.some.inj hj).symm
      have hsv := saved_any _ L p M B rc tc RA TA pg s f (h.fresh (hb0 (.cells #[.int .i64 c.kind, .int .i64 c.num, .slice VA c.vals.length vc, .slice (some ⟨b, o, none⟩) c.frames.length fc] 46))) (aR.below ((hb0 _).mono hB)) (aT.below ((hb0 _).mono hB)) lR lT (by simp; omega) i4 i5 hcd hcl
      have hc1 : (0 : Int) < (c.frames.length : Int) := by omega
      have hbw : b < w.heap.size := by omega
      have H := Lib.hid (And.intro hb0 (And.intro hsv hall)); clear hb0 hsv hall h hF hce aR aT i0 i1 i2 i3 i4 i5 k5 n0 hf hl1
      go_enter Tryz.func90, Tryz.ntmps90
      go_wp2_with fail
      refine H.out.2.1.mono ?_
      rintro e w1 ⟨bb, rfl, hq, hb1⟩
      have HQ := Lib.hid (And.intro hq ((H.out.1 _).trans (hb1.mono (by simp)))); clear hq hb1 e0 e1 e2 e3 e4 e5 e6 e7
      go_wp2_with fail
      rw [← HP.out]
      exact ⟨_, rfl, fun h _ _ g hg => by rw [H.out.2.2 g hg]; exact HQ.out.1 (by simpa using h), HQ.out.2⟩
    · have dn : (c.num == 0) = false := by simpa using n0
      have dn2 : (c.num != 0) = true := by simpa using n0
      have H := Lib.hid (And.intro hb0 n0); clear hb0 h hF hce n0 k5
      go_enter Tryz.func90, Tryz.ntmps90
      go_wp2_with fail
      rw [← HP.out]
      exact ⟨_, rfl, fun _ _ h => absurd h H.out.2, H.out.1 _⟩
  · have d5 : (c.kind == 5) = false := by simpa using k5
    have H := Lib.hid (And.intro hb0 k5); clear hb0 h hF hce k5
    go_enter Tryz.func90, Tryz.ntmps90
    go_wp2_with fail
    rw [← HP.out]
    exact ⟨_, rfl, fun _ h => absurd h H.out.2, H.out.1 _⟩
end Top
end Go.Proofs.YtdlcooplllimeaaGreatDoor

/- state: tables that code.All makes are tables that fit. -/
namespace Go.Proofs.YtdlcooplllimeaaGreatDoor
open Go.RowKit

namespace Top
theorem rows_pick {β α : Type} (P : β → Raw 1 → α → Prop) (l : List (Raw 1)) : ∀ m : List β, l.length = m.length → (∀ (j : Nat) r f, l[j]? = some r → m[j]? = some f → ∃ x, P f r x) →
    ∃ X : List α, X.length = l.length ∧ ∀ (j : Nat) r f x, l[j]? = some r → m[j]? = some f → X[j]? = some x → P f r x := by
  induction l with
  | nil => intro m _ _; exact ⟨[], rfl, fun j r f x hr _ _ => by simp at hr⟩
  | cons r l ih =>
    intro m hm h
    cases m with
    | nil => simp at hm
    | cons f m =>
      obtain ⟨X, h1, h2⟩ := ih m (by simpa using hm) fun j r' f' a b => h (j + 1) r' f' (by simpa using a) (by simpa using b)
      obtain ⟨x, hx⟩ := h 0 r f rfl rfl
      refine ⟨x :: X, by simp [h1], fun j r' f' x' a b c => ?_⟩
      cases j with
      | zero => simp at a b c; subst a b c; exact hx
      | succ j => exact h2 j r' f' x' (by simpa using a) (by simpa using b) (by simpa using c)
theorem tabs_of {w : World} {base : Nat} {pg : Pg} {A1 A2 : Option Addr} {c1 c2 : Nat} {l1 l2 : List (Raw 1)} (h : AllT w base pg.fns pg.fns.length A1 A2 c1 c2 l1 l2) :
    ∃ X Y, At w w.heap.size A1 X ∧ At w w.heap.size A2 Y ∧ TabOk pg X Y := by
  obtain ⟨X, hX1, hX2⟩ := rows_pick (fun (f : Fn) (r : Raw 1) (x : List (List (Int × Int))) => x.length = f.code.length ∧ (∀ l ∈ x, l.length ≤ 20) ∧ Enc.rd w w.heap.size r.cs x) l1 pg.fns h.n1 (fun j r f a b => by
    obtain ⟨O, co, out, e1, e2, e3, e4⟩ := h.r1 j r f a b
    obtain ⟨L, q1, q2, q3⟩ := outs_at e2 e4
    refine ⟨L, by rw [q1, e3], q2, O, co, ?_, ?_, e2.le_cap.2, Own.none_zero e2, q3⟩
    · rw [e1, q1, e3]
    · rw [q1]; exact e2.le_cap.1)
  obtain ⟨Y, hY1, hY2⟩ := rows_pick (fun (f : Fn) (r : Raw 1) (x : List Bool) => x.length = f.code.length ∧ Enc.rd w w.heap.size r.cs x) l2 pg.fns h.n2 (fun j r f a b => by
    obtain ⟨S, cs, seen, e1, e2, e3⟩ := h.r2 j r f a b
    refine ⟨seen, e3, S, cs, ?_, e2.le_cap.1, e2.le_cap.2, Own.none_zero e2, e2.at_ (fun _ _ => trivial)⟩
    rw [e1, e3])
  refine ⟨X, Y, Own.at_raw rfl h.o1 hX1.symm ?_, Own.at_raw rfl h.o2 hY1.symm ?_, by rw [hX1, h.n1], by rw [hY1, h.n2], ?_⟩
  · intro i r x hr hx
    have hi := (List.getElem?_eq_some_iff.1 hr).1
    have hf := List.getElem?_eq_getElem (l := pg.fns) (i := i) (by rw [← h.n1]; exact hi)
    exact (hX2 i r _ x hr hf hx).2.2
  · intro i r x hr hx
    have hi := (List.getElem?_eq_some_iff.1 hr).1
    have hf := List.getElem?_eq_getElem (l := pg.fns) (i := i) (by rw [← h.n2]; exact hi)
    exact (hY2 i r _ x hr hf hx).2
  · intro k f x y hf hx hy
    have hk1 := (List.getElem?_eq_some_iff.1 hx).1
    have hk2 := (List.getElem?_eq_some_iff.1 hy).1
    have a := hX2 k _ f x (List.getElem?_eq_getElem (by omega)) hf hx
    have b := hY2 k _ f y (List.getElem?_eq_getElem (by omega)) hf hy
    exact ⟨a.1, b.1, a.2.1⟩
def ML (t : TypeId) : Prop := t = 104
instance (t : TypeId) : Decidable (ML t) := by unfold ML; infer_instance
theorem AllT.keptL {w w' : World} {base : Nat} {fns : List Fn} {k : Nat} {A1 A2 : Option Addr} {c1 c2 : Nat} {l1 l2 : List (Raw 1)} (h : AllT w base fns k A1 A2 c1 c2 l1 l2) (hk : Kept ML w w') : AllT w' base fns k A1 A2 c1 c2 l1 l2 := by
  refine ⟨hk.own h.o1 (by decide), hk.own h.o2 (by decide), h.n1, h.n2, fun j r f a b => ?_, fun j r f a b => ?_⟩
  · obtain ⟨O, co, out, h1, h2, h3, h4⟩ := h.r1 j r f a b
    refine ⟨O, co, out, h1, hk.own h2 (by decide), h3, fun r' hr' => ?_⟩
    obtain ⟨A, c, x, k1, k2, k3⟩ := h4 r' hr'
    exact ⟨A, c, x, k1, hk.own k2 (by decide), k3⟩
  · obtain ⟨S, cs, seen, h1, h2, h3⟩ := h.r2 j r f a b
    exact ⟨S, cs, seen, h1, hk.own h2 (by decide), h3⟩
end Top
end Go.Proofs.YtdlcooplllimeaaGreatDoor
