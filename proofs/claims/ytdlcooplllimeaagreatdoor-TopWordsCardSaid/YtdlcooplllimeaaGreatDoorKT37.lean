/- KT: StcF, StcG, StcH, StcI, StcJ, StcK. -/
import Derived.Test.YtdlcooplllimeaaGreatDoorKT11
import Derived.Test.YtdlcooplllimeaaGreatDoorKT36
import Derived.Deep.CutBlock
/- state: the frames of a thread. -/
namespace Go.Proofs.YtdlcooplllimeaaGreatDoor
open Go.RowKit

attribute [local go_sem ↓] Go.wp_at_zero Go.wp_at_succ

namespace Top
theorem MapN.isMap {w : World} {k b n : Nat} (h : MapN w k b n) : IsMap w b := by
  obtain ⟨D, es, clock, h1, -⟩ := h
  exact ⟨es, clock, h1⟩
theorem MapN.mapt {w w' : World} {k b n : Nat} (h : MapN w k b n) (h' : IsMap w' b) (hg : w.grownBy w' (some b)) : Mapt b w w' :=
  ⟨(Touch.refl _ _).grown hg (fun g e => by injection e with e; exact e.symm), h.isMap, h'⟩
/-- what is known of a thread's frame -/
def FsL (pg : Pg) (s : Stt) (f : Fr) : Prop := FrL pg s f ∧ f.gen < s.cells.length
def StkPost (pg : Pg) (s : Stt) (M N : Nat) (fs : List Fr) (w : World) (e : Ending) (w' : World) : Prop := ∃ b : Bool, e = .returned (.bool b) ∧ (b = true → ∀ f ∈ fs, FsL pg s f) ∧ Mapt M w w' ∧ MapN w' 3 M N
theorem MapN.more {w : World} {k b n n' : Nat} (h : MapN w k b n) (hn : n ≤ n') : MapN w k b n' := by obtain ⟨D, h⟩ := h; exact ⟨D, h.mono hn⟩
set_option maxHeartbeats 3200000 in
set_option maxRecDepth 100000 in
theorem stack_any (w : World) (L p M N B c n : Nat) (A : Option Addr) (pg : Pg) (s : Stt) (fs : List Fr) (hn : fs.length = n) (h : LkA w L p M pg s) (hm : MapN w 3 M N) (hA : At w B A fs) (hB : B ≤ w.heap.size) (hN : N + n ≤ 1000000) (hcd : CdOk pg) (hcl : s.cells.length ≤ 300) :
    Calls Tryz.prog 138 #[.pointer (some ⟨L, 0, none⟩), .slice A n c] w (StkPost pg s M (N + n) fs w) := by
  obtain ⟨P, hP⟩ : ∃ P, StkPost pg s M (N + n) fs w = P := ⟨_, rfl⟩
  have HP := Lib.hid hP; rw [hP]; clear hP
  have hLlt := h.lt
  obtain ⟨hone1, hone2⟩ := hcd.one
  have H := Lib.hid (And.intro h (And.intro hm (And.intro hA (And.intro hn hcd)))); clear h hm hA hn hcd
  have hfin : ∀ (k : Nat) (w' : World), k ≤ n → Mapt M w w' → MapN w' 3 M (N + k) → P (.returned (.bool false)) w' := by
    intro k w' hk h1 h2
    rw [← HP.out]
    exact ⟨false, rfl, fun h => (by cases h), h1, h2.more (by omega)⟩
  have HN := Lib.hid hfin; clear hfin
  go_enter Tryz.func138, Tryz.ntmps138
  go_wp2_with fail
  go_loopg [13] n (fun gk iv wr => ∃ k : Nat, k ≤ n ∧ gk = n - k ∧ iv = .int .i64 k ∧ Hid ((∀ f ∈ fs.take k, FsL pg s f) ∧ Mapt M w wr ∧ MapN wr 3 M (N + k)))
  case atStart => exact ⟨0, Nat.zero_le _, rfl, rfl, fun f hf => by simp at hf, Mapt.refl H.out.2.1.isMap, H.out.2.1⟩
  case round =>
    obtain ⟨k, hk, rfl, rfl, hkeep⟩ := hrel
    have hsz := hkeep.out.2.1.size
    by_cases hlt : k < n
    · have hAr := hkeep.out.2.1.at_ H.out.2.2.1 hB
      obtain ⟨b, o, f, RA, rc, TA, tc, rfl, hbb, hf, e0, e1, e2, e3, e4, e5, e6, e7, aR, lR, aT, lT, i0, i1, i2, i3, i4, i5⟩ := hAr.fr_ (k := k) (by have := H.out.2.2.2.1; omega)
      have hk0 : (0 : Int) ≤ (k : Int) := by omega
      have hk1 : (k : Int) < (n : Int) := by omega
      have hLr := H.out.1.mapt hkeep.out.2.1
      have hX := Lib.hid (And.intro hf (And.intro aR (And.intro aT (And.intro lR (And.intro lT (And.intro i3 (And.intro i4 i5))))))); clear hf aR aT lR lT i0 i1 i2 i3 i4 i5
      go_upto_region 5 with fail
      refine wp_world (fun V => Blk V wr.heap.size 141 #[.int .i64 f.fn, .int .i64 f.at_, .int .i64 f.fto, .int .i64 f.gen, .int .i64 f.self.1, .int .i64 f.self.2, .slice RA f.regs.length rc, .slice TA f.tries.length tc] ∧ Below wr.heap.size wr V ∧ wr.heap.size + 1 ≤ V.heap.size) ⟨Blk.new _ _ _, (Below.refl _ _).alloc (Nat.le_refl _) _, by simp⟩ ?_
      rintro V ⟨hF, hbV, hsV⟩
      have HV := Lib.hid (And.intro hF (And.intro hbV (And.intro (hLr.fresh hbV) (hAr.below (hbV.mono (by omega)))))); clear hF hbV hLr hAr e0 e1 e2 e3 e4 e5 e6 e7
      go_upto_if 19 with fail
      go_cut [7] from 18 to 26 (fun v7 W2 => ∃ low : Int, v7 = .int .i64 low ∧ W2 = V)
      case first =>
        cases k with
        | zero =>
          go_wp2_with fail
          go_meet
          exact ⟨_, rfl, rfl⟩
        | succ j =>
          obtain ⟨b', o', g, RA', rc', TA', tc', hA', hbb', -, -, -, -, -, -, -, g6, -⟩ := HV.out.2.2.2.fr_ (k := j) (by have := H.out.2.2.2.1; omega)
          injection hA' with hA'
          injection hA' with hA1 hA2
          subst hA1 hA2
          have d0 : decide ((0 : Int) < ((j + 1 : Nat) : Int)) = true := decide_eq_true (by omega)
          have w1 : IntKind.i64.wrap ((j : Int) + 1 - 1) = (j : Int) := by rw [IntWalk.i64_in _ (by omega)]; omega
          have w2 : IntKind.i64.wrap (j : Int) = (j : Int) := IntWalk.i64_in _ (by clear w1; omega)
          have j0 : (0 : Int) ≤ (j : Int) := by clear w1 w2; omega
          have j1 : (j : Int) < (n : Int) := by clear w1 w2; omega
          go_wp2_with fail
          go_meet
          exact ⟨_, rfl, rfl⟩
      case rest =>
        obtain ⟨low, rfl, hwc⟩ := hcut
        have hwc2 := hwc.symm
        subst hwc2
        go_upto_region 7 with fail
        go_cut [8] from 27 to 45 (fun v8 W2 => ∃ g : Bool, v8 = .bool g ∧ Hid (Below V.heap.size V W2))
        case first =>
          obtain ⟨GA, CA, PA, XA, YA, gc, cc, pc, xc, yc, X, Y, k1, -, k3, -⟩ := HV.out.2.2.1
          have hwl : IntKind.i64.wrap ((pg.fns.length : Int) - 1) = (pg.fns.length : Int) - 1 := IntWalk.i64_in _ (by omega)
          have BX : Below V.heap.size V V.drew := (Below.refl _ _).drew
          have q0 : 0 ≤ max 0 (min f.fn ((pg.fns.length : Int) - 1)) := by omega
          have q1 : max 0 (min f.fn ((pg.fns.length : Int) - 1)) < (pg.fns.length : Int) := by omega
          obtain ⟨gb, go, y, -, -, -, -, rfl, hgb, hy, -, -, y2, -⟩ := k3.fn_ (k := (max 0 (min f.fn ((pg.fns.length : Int) - 1))).toNat) (by omega)
          have HK := Lib.hid (And.intro k1 y2); clear k1 k3 hy y2
          refine wp_region_held_drew (S := (fun w' => w'.cell? ⟨L, 0, none⟩ = some (.slice (some ⟨gb, go, none⟩) pg.fns.length gc) ∧ w'.cell? ⟨wr.heap.size, 0, none⟩ = some (.int .i64 f.fn) ∧ w'.cell? ⟨gb, go + (max 0 (min f.fn ((pg.fns.length : Int) - 1))).toNat * 5 + 2, none⟩ = some (.bool y.gen))) (by kernel_rfl) ?_ (fun hHeld0 => ?_)
          · first | trivial | ((try dsimp only); (exact ⟨(HK.out.1.fresh BX).cell 0 rfl, (HV.out.1.fresh BX).cell 0 rfl, (BX.cell (p := ⟨gb, go + (max 0 (min f.fn ((pg.fns.length : Int) - 1))).toNat * 5 + 2, none⟩) (by simp; omega)).trans HK.out.2⟩))
          refine htk 0 rfl ?_
          try go_frame
          refine htk 1 rfl ?_
          try go_frame
          refine htk 2 rfl ?_
          try go_frame
          refine htk 3 rfl ?_
          try go_frame
          refine htk 4 rfl ?_
          try go_frame
          refine htk 5 rfl ?_
          try go_frame
          refine htk 6 rfl ?_
          try go_frame
          refine htk 7 rfl ?_
          try go_frame
          refine htk 8 rfl ?_
          try go_frame
          refine htk 9 rfl ?_
          try go_frame
          refine htk 10 rfl ?_
          try go_frame
          refine htk 11 rfl ?_
          try go_frame
          refine htk 12 rfl ?_
          try go_frame
          refine htk 13 rfl ?_
          try go_frame
          refine htk 14 rfl ?_
          try go_frame
          refine htk 15 rfl ?_
          try go_frame
          refine htk 16 rfl ?_
          try go_frame
          refine htk 17 rfl ?_
          try go_frame
          refine htk 18 rfl ?_
          try go_frame
          refine htk 19 rfl ?_
          try go_frame
          refine wpAnyH_done (by kernel_rfl) ?_ _
          go_wp2_with fail
          go_meet
          exact ⟨_, rfl, BX⟩
        case rest =>
          obtain ⟨g8, rfl, hb8⟩ := hcut
          obtain ⟨Z, rfl⟩ : ∃ Z : World, Z = wc := ⟨_, rfl⟩
          have hsZ := hb8.out.size
          have hrZ : Below wr.heap.size wr Z := HV.out.2.1.trans (hb8.out.mono (by omega))
          have hex : ∀ w', Below wr.heap.size wr w' → P (.returned (.bool false)) w' := fun w' h' => HN.out k w' (by omega) (hkeep.out.2.1.fresh h') (hkeep.out.2.2.kept h')
          have HX1 := Lib.hid hex; clear hex
          have hF := HV.out.1.fresh hb8.out
          have f0 := hF.cell 0 (v := .int .i64 f.fn) rfl
          have f1 := hF.cell 1 (v := .int .i64 f.at_) rfl
          have f2 := hF.cell 2 (v := .int .i64 f.fto) rfl
          have f3 := hF.cell 3 (v := .int .i64 f.gen) rfl
          have f4 := hF.cell 4 (v := .int .i64 f.self.1) rfl
          have f5 := hF.cell 5 (v := .int .i64 f.self.2) rfl
          have f6 := hF.cell 6 (v := .slice RA f.regs.length rc) rfl
          have f7 := hF.cell 7 (v := .slice TA f.tries.length tc) rfl
          have hfr := frame_any Z L p M B rc tc RA TA pg s f (HV.out.2.2.1.fresh hb8.out) (hX.out.2.1.below (hrZ.mono (by omega))) (hX.out.2.2.1.below (hrZ.mono (by omega))) hX.out.2.2.2.1 hX.out.2.2.2.2.1 (by omega) hX.out.2.2.2.2.2.2.1 hX.out.2.2.2.2.2.2.2 H.out.2.2.2.2 hcl
          obtain ⟨q, hq⟩ : ∃ q, IntKind.i64.wrap (low - 1) = q := ⟨_, rfl⟩
          have HZ := Lib.hid (And.intro hfr (And.intro hF hrZ)); clear hfr hF hrZ
          go_wp2_with fail
          refine HZ.out.1.mono ?_
          rintro e w2 ⟨bF, rfl, hfl, hb2⟩
          have hr2 : Below wr.heap.size wr w2 := HZ.out.2.2.trans (hb2.mono (by omega))
          have hF2 := HZ.out.2.1.fresh hb2
          have hs2 := hb2.size
          clear f0 f1 f2 f3 f4 f5 f6 f7
          cases bF with
          | false =>
            have HE := Lib.hid hr2; clear hr2 hF2 hb2 hfl
            go_wp2_with fail
            exact HX1.out _ HE.out
          | true =>
          have f2 := hF2.cell 2 (v := .int .i64 f.fto) rfl
          have f3 := hF2.cell 3 (v := .int .i64 f.gen) rfl
          have H2 := Lib.hid (And.intro (hfl rfl) (And.intro hr2 (And.intro hF2 ((HV.out.2.2.1.fresh hb8.out).fresh hb2)))); clear hr2 hF2 hb2 hfl
          obtain ⟨bW, hbW⟩ : ∃ b, (decide (-1 ≤ f.fto) && decide (f.fto ≤ q)) = b := ⟨_, rfl⟩
          have hwi := swithin_any f.fto (-1) q w2
          rw [hbW] at hwi
          have HWI := Lib.hid hwi; clear hwi hbW
          go_wp2_with fail
          refine HWI.out.mono ?_
          rintro e w3 ⟨rfl, rfl⟩
          clear hq
          cases bW with
          | false =>
            clear f2 f3
            go_wp2_with fail
            exact HX1.out _ H2.out.2.1
          | true =>
          by_cases hg0 : 0 ≤ f.gen
          · have d1 : decide (0 ≤ f.gen) = true := decide_eq_true hg0
            have d2 : decide (f.gen < -1) = false := decide_eq_false (by omega)
            have HG := Lib.hid hg0; clear hg0
            cases g8 with
            | false =>
              clear f2
              go_wp2_with fail
              exact HX1.out _ H2.out.2.1
            | true =>
            have hlc := lcell_any w2 L p M pg s 5 f.gen 5 H2.out.2.2.2 hcl
            have HLC := Lib.hid hlc; clear hlc f2
            go_wp2_with fail
            refine HLC.out.mono ?_
            rintro e w4 ⟨a, m', A1, A2, n1, c1, n2, c2, bC, rfl, hisC, hb4⟩
            have hs4 := hb4.size
            have hr4 : Below wr.heap.size wr w4 := H2.out.2.1.trans (hb4.mono (by omega))
            have H4 := Lib.hid (And.intro hisC (And.intro hr4 (And.intro (H2.out.2.2.1.fresh hb4) (H2.out.2.2.2.fresh hb4)))); clear hisC hr4 hb4 f3
            go_upto_region 12 with fail
            refine wp_world (fun V5 => Blk V5 w4.heap.size 46 #[.int .i64 a, .int .i64 m', .slice A1 n1 c1, .slice A2 n2 c2] ∧ Below w4.heap.size w4 V5) ⟨Blk.new _ _ _, (Below.refl _ _).alloc (Nat.le_refl _) _⟩ ?_
            rintro V5 ⟨hCe, hV5⟩
            have hs5 := hV5.size
            have hr5 : Below wr.heap.size wr V5 := H4.out.2.1.trans (hV5.mono (by omega))
            have hgl : I64 f.gen := hX.out.2.2.2.2.2.1
            have hm5 := hkeep.out.2.2.kept hr5
            obtain ⟨cc, hlook⟩ := hm5.looks (t := 89) lawInt Tryz.underlying89 (keyInt hgl)
            obtain ⟨GA, CA, PA, XA, YA, gc, cc', pc, xc, yc, X, Y, k1, -⟩ := H4.out.2.2.2.fresh hV5
            have H5 := Lib.hid (And.intro H4.out.1 (And.intro hr5 (And.intro hCe (And.intro k1 (And.intro (H4.out.2.2.1.fresh hV5) hlook))))); clear hr5 hCe k1 hlook hV5
            have BX : Below V5.heap.size V5 V5.drew := (Below.refl _ _).drew
            by_cases hk00 : k = 0
            · have dk : ((k : Int) == 0) = true := by rw [hk00]; rfl
              clear hk00
              refine wp_region_held_drew (S := (fun w' => w'.cell? ⟨w4.heap.size, 1, none⟩ = some (.int .i64 m') ∧ w'.cell? ⟨L, 6, none⟩ = some (.map (some M)) ∧ w'.cell? ⟨wr.heap.size, 3, none⟩ = some (.int .i64 f.gen) ∧ (Instr.lookup 89 (.map (some M)) (.int .i64 f.gen) false).run Tryz.prog w' = .ok (.int .i64 cc) w')) (by kernel_rfl) ?_ (fun hHeld0 => ?_)
              · first | trivial | ((try dsimp only); (exact ⟨(H5.out.2.2.1.fresh BX).cell 1 rfl, (H5.out.2.2.2.1.fresh BX).cell 6 rfl, (H5.out.2.2.2.2.1.fresh BX).cell 3 rfl, H5.out.2.2.2.2.2 _ BX⟩))
              refine htk 0 rfl ?_
              try go_frame
              refine htk 1 rfl ?_
              try go_frame
              refine htk 2 rfl ?_
              try go_frame
              refine hsk 3 rfl ?_
              try go_frame
              refine hsk 4 rfl ?_
              try go_frame
              refine htk 5 rfl ?_
              try go_frame
              refine htk 6 rfl ?_
              try go_frame
              refine hsk 7 rfl ?_
              try go_frame
              refine hsk 8 rfl ?_
              try go_frame
              refine hsk 9 rfl ?_
              try go_frame
              refine htk 10 rfl ?_
              try go_frame
              refine htk 11 rfl ?_
              try go_frame
              refine hsk 12 rfl ?_
              try go_frame
              refine hsk 13 rfl ?_
              try go_frame
              refine hsk 14 rfl ?_
              try go_frame
              refine hsk 15 rfl ?_
              try go_frame
              refine hsk 16 rfl ?_
              try go_frame
              refine hsk 17 rfl ?_
              try go_frame
              refine hsk 18 rfl ?_
              try go_frame
              refine hsk 19 rfl ?_
              try go_frame
              refine htk 20 rfl ?_
              try go_frame
              refine wpAnyH_done (by kernel_rfl) ?_ _
              go_wp2_with fail
              exact HX1.out _ (H5.out.2.1.trans (BX.mono (by omega)))
            have dk : ((k : Int) == 0) = false := by rw [beq_eq_false_iff_ne]; omega
            cases bC with
            | false =>
              refine wp_region_held_drew (S := (fun w' => w'.cell? ⟨w4.heap.size, 1, none⟩ = some (.int .i64 m') ∧ w'.cell? ⟨L, 6, none⟩ = some (.map (some M)) ∧ w'.cell? ⟨wr.heap.size, 3, none⟩ = some (.int .i64 f.gen) ∧ (Instr.lookup 89 (.map (some M)) (.int .i64 f.gen) false).run Tryz.prog w' = .ok (.int .i64 cc) w')) (by kernel_rfl) ?_ (fun hHeld0 => ?_)
              · first | trivial | ((try dsimp only); (exact ⟨(H5.out.2.2.1.fresh BX).cell 1 rfl, (H5.out.2.2.2.1.fresh BX).cell 6 rfl, (H5.out.2.2.2.2.1.fresh BX).cell 3 rfl, H5.out.2.2.2.2.2 _ BX⟩))
              refine htk 0 rfl ?_
              try go_frame
              refine htk 1 rfl ?_
              try go_frame
              refine htk 2 rfl ?_
              try go_frame
              refine htk 3 rfl ?_
              try go_frame
              refine htk 4 rfl ?_
              try go_frame
              refine htk 5 rfl ?_
              try go_frame
              refine htk 6 rfl ?_
              try go_frame
              refine hsk 7 rfl ?_
              try go_frame
              refine hsk 8 rfl ?_
              try go_frame
              refine hsk 9 rfl ?_
              try go_frame
              refine htk 10 rfl ?_
              try go_frame
              refine htk 11 rfl ?_
              try go_frame
              refine hsk 12 rfl ?_
              try go_frame
              refine hsk 13 rfl ?_
              try go_frame
              refine hsk 14 rfl ?_
              try go_frame
              refine hsk 15 rfl ?_
              try go_frame
              refine hsk 16 rfl ?_
              try go_frame
              refine hsk 17 rfl ?_
              try go_frame
              refine hsk 18 rfl ?_
              try go_frame
              refine hsk 19 rfl ?_
              try go_frame
              refine htk 20 rfl ?_
              try go_frame
              refine wpAnyH_done (by kernel_rfl) ?_ _
              go_wp2_with fail
              exact HX1.out _ (H5.out.2.1.trans (BX.mono (by omega)))
            | true =>
            by_cases hm1 : m' = 1
            · have dm : (m' == 1) = true := by rw [hm1]; rfl
              have dm2 : (m' != 1) = false := by rw [hm1]; rfl
              clear hm1
              by_cases hc1 : cc = 1
              · have dc : (cc == 1) = true := by rw [hc1]; rfl
                clear hc1
                refine wp_region_held_drew (S := (fun w' => w'.cell? ⟨w4.heap.size, 1, none⟩ = some (.int .i64 m') ∧ w'.cell? ⟨L, 6, none⟩ = some (.map (some M)) ∧ w'.cell? ⟨wr.heap.size, 3, none⟩ = some (.int .i64 f.gen) ∧ (Instr.lookup 89 (.map (some M)) (.int .i64 f.gen) false).run Tryz.prog w' = .ok (.int .i64 cc) w')) (by kernel_rfl) ?_ (fun hHeld0 => ?_)
                · first | trivial | ((try dsimp only); (exact ⟨(H5.out.2.2.1.fresh BX).cell 1 rfl, (H5.out.2.2.2.1.fresh BX).cell 6 rfl, (H5.out.2.2.2.2.1.fresh BX).cell 3 rfl, H5.out.2.2.2.2.2 _ BX⟩))
                refine htk 0 rfl ?_
                try go_frame
                refine htk 1 rfl ?_
                try go_frame
                refine htk 2 rfl ?_
                try go_frame
                refine htk 3 rfl ?_
                try go_frame
                refine htk 4 rfl ?_
                try go_frame
                refine htk 5 rfl ?_
                try go_frame
                refine htk 6 rfl ?_
                try go_frame
                refine htk 7 rfl ?_
                try go_frame
                refine htk 8 rfl ?_
                try go_frame
                refine htk 9 rfl ?_
                try go_frame
                refine htk 10 rfl ?_
                try go_frame
                refine htk 11 rfl ?_
                try go_frame
                refine htk 12 rfl ?_
                try go_frame
                refine htk 13 rfl ?_
                try go_frame
                refine htk 14 rfl ?_
                try go_frame
                refine htk 15 rfl ?_
                try go_frame
                refine htk 16 rfl ?_
                try go_frame
                refine htk 17 rfl ?_
                try go_frame
                refine htk 18 rfl ?_
                try go_frame
                refine htk 19 rfl ?_
                try go_frame
                refine htk 20 rfl ?_
                try go_frame
                refine wpAnyH_done (by kernel_rfl) ?_ _
                go_wp2_with fail
                exact HX1.out _ (H5.out.2.1.trans (BX.mono (by omega)))
              · have dc : (cc == 1) = false := by simpa using hc1
                clear hc1
                refine wp_region_held_drew (S := (fun w' => w'.cell? ⟨w4.heap.size, 1, none⟩ = some (.int .i64 m') ∧ w'.cell? ⟨L, 6, none⟩ = some (.map (some M)) ∧ w'.cell? ⟨wr.heap.size, 3, none⟩ = some (.int .i64 f.gen) ∧ (Instr.lookup 89 (.map (some M)) (.int .i64 f.gen) false).run Tryz.prog w' = .ok (.int .i64 cc) w')) (by kernel_rfl) ?_ (fun hHeld0 => ?_)
                · first | trivial | ((try dsimp only); (exact ⟨(H5.out.2.2.1.fresh BX).cell 1 rfl, (H5.out.2.2.2.1.fresh BX).cell 6 rfl, (H5.out.2.2.2.2.1.fresh BX).cell 3 rfl, H5.out.2.2.2.2.2 _ BX⟩))
                refine htk 0 rfl ?_
                try go_frame
                refine htk 1 rfl ?_
                try go_frame
                refine htk 2 rfl ?_
                try go_frame
                refine htk 3 rfl ?_
                try go_frame
                refine htk 4 rfl ?_
                try go_frame
                refine htk 5 rfl ?_
                try go_frame
                refine htk 6 rfl ?_
                try go_frame
                refine htk 7 rfl ?_
                try go_frame
                refine htk 8 rfl ?_
                try go_frame
                refine htk 9 rfl ?_
                try go_frame
                refine htk 10 rfl ?_
                try go_frame
                refine htk 11 rfl ?_
                try go_frame
                refine htk 12 rfl ?_
                try go_frame
                refine htk 13 rfl ?_
                try go_frame
                refine htk 14 rfl ?_
                try go_frame
                refine htk 15 rfl ?_
                try go_frame
                refine htk 16 rfl ?_
                try go_frame
                refine htk 17 rfl ?_
                try go_frame
                refine htk 18 rfl ?_
                try go_frame
                refine htk 19 rfl ?_
                try go_frame
                refine htk 20 rfl ?_
                try go_frame
                refine wpAnyH_done (by kernel_rfl) ?_ _
                go_upto_region 14 with fail
                refine wp_world (fun X => Below V5.heap.size V5 X) BX ?_
                clear BX
                rintro X0 hX0
                have hrX : Below wr.heap.size wr X0.drew := H5.out.2.1.trans (hX0.drew.mono (by omega))
                have hmX := hkeep.out.2.2.kept hrX
                obtain ⟨Y0, hupd, hmY, hgY⟩ := hmX.upd (t := 89) lawInt Tryz.underlying89 (by unfold maxLen; omega) (keyInt hX.out.2.2.2.2.2.1) (x := 1) (by unfold I64; omega)
                have hmt := hmX.mapt hmY.isMap hgY
                have hL0 := (H5.out.2.2.2.1.fresh hX0)
                have hF0 := (H5.out.2.2.2.2.1.fresh hX0)
                have hnew : ∀ g ∈ fs.take (k + 1), FsL pg s g := by
                  refine all_stepT hkeep.out.1 hX.out.1 ⟨H2.out.1, ?_⟩
                  obtain ⟨-, j, c', e1, e2, -⟩ := H5.out.1 rfl
                  have e1' : f.gen = (j : Int) := e1
                  have := (List.getElem?_eq_some_iff.1 e2).1
                  omega
                have HR := Lib.hid (And.intro hnew (And.intro ((hkeep.out.2.1.fresh hrX).trans hmt) (hmY.more (show N + k + 1 ≤ N + (k + 1) by omega))))
                have HB := Lib.hid (And.intro hL0 (And.intro hF0 hmt)); clear hnew hL0 hF0 hmt hmY hgY hmX hrX hX0
                refine wp_region_held_drew (S := (fun w' => w'.cell? ⟨L, 6, none⟩ = some (.map (some M)) ∧ w'.cell? ⟨wr.heap.size, 3, none⟩ = some (.int .i64 f.gen))) (by kernel_rfl) ?_ (fun hHeld0 => ?_)
                · first | trivial | ((try dsimp only); (first | exact ⟨HB.out.1.drew.cell 6 rfl, HB.out.2.1.drew.cell 3 rfl⟩ | exact ⟨(HB.out.2.2.blk HB.out.1.drew).cell 6 rfl, (HB.out.2.2.blk HB.out.2.1.drew).cell 3 rfl⟩))
                refine htk 0 rfl ?_
                try go_frame
                refine htk 1 rfl ?_
                try go_frame
                refine htk 2 rfl ?_
                try go_frame
                refine htk 3 rfl ?_
                try go_frame
                refine htk 4 rfl ?_
                try go_frame
                refine htk 5 rfl ?_
                try go_frame
                refine held_call 6 (by kernel_rfl) rfl (fun K hK => ?_)
                go_simp
                refine hK.out _ _ ?_ (fun hHeld1 => ?_)
                · first | trivial | ((try dsimp only); (first | exact ⟨HB.out.1.drew.cell 6 rfl, HB.out.2.1.drew.cell 3 rfl⟩ | exact ⟨(HB.out.2.2.blk HB.out.1.drew).cell 6 rfl, (HB.out.2.2.blk HB.out.2.1.drew).cell 3 rfl⟩))
                clear hK K hHeld0
                try go_frame
                refine wpAnyH_done (by kernel_rfl) ?_ _
                go_wp2_with fail
                go_roundg (n - (k + 1))
                case measure => omega
                case rel => exact ⟨k + 1, by omega, rfl, by go_num, HR.out⟩
            · have dm : (m' == 1) = false := by simpa using hm1
              have dm2 : (m' != 1) = true := by simpa using hm1
              clear hm1
              refine wp_region_held_drew (S := (fun w' => w'.cell? ⟨w4.heap.size, 1, none⟩ = some (.int .i64 m') ∧ w'.cell? ⟨L, 6, none⟩ = some (.map (some M)) ∧ w'.cell? ⟨wr.heap.size, 3, none⟩ = some (.int .i64 f.gen) ∧ (Instr.lookup 89 (.map (some M)) (.int .i64 f.gen) false).run Tryz.prog w' = .ok (.int .i64 cc) w')) (by kernel_rfl) ?_ (fun hHeld0 => ?_)
              · first | trivial | ((try dsimp only); (exact ⟨(H5.out.2.2.1.fresh BX).cell 1 rfl, (H5.out.2.2.2.1.fresh BX).cell 6 rfl, (H5.out.2.2.2.2.1.fresh BX).cell 3 rfl, H5.out.2.2.2.2.2 _ BX⟩))
              refine htk 0 rfl ?_
              try go_frame
              refine htk 1 rfl ?_
              try go_frame
              refine htk 2 rfl ?_
              try go_frame
              refine htk 3 rfl ?_
              try go_frame
              refine htk 4 rfl ?_
              try go_frame
              refine htk 5 rfl ?_
              try go_frame
              refine htk 6 rfl ?_
              try go_frame
              refine htk 7 rfl ?_
              try go_frame
              refine htk 8 rfl ?_
              try go_frame
              refine htk 9 rfl ?_
              try go_frame
              refine htk 10 rfl ?_
              try go_frame
              refine htk 11 rfl ?_
              try go_frame
              refine hsk 12 rfl ?_
              try go_frame
              refine hsk 13 rfl ?_
              try go_frame
              refine hsk 14 rfl ?_
              try go_frame
              refine hsk 15 rfl ?_
              try go_frame
              refine hsk 16 rfl ?_
              try go_frame
              refine hsk 17 rfl ?_
              try go_frame
              refine hsk 18 rfl ?_
              try go_frame
              refine hsk 19 rfl ?_
              try go_frame
              refine htk 20 rfl ?_
              try go_frame
              refine wpAnyH_done (by kernel_rfl) ?_ _
              go_wp2_with fail
              exact HX1.out _ (H5.out.2.1.trans (BX.mono (by omega)))
          · have d1 : decide (0 ≤ f.gen) = false := decide_eq_false hg0
            have HG := Lib.hid hg0; clear hg0
            cases g8 with
            | true =>
              clear f2
              go_wp2_with fail
              exact HX1.out _ H2.out.2.1
            | false =>
            by_cases hg1 : f.gen < -1
            · have d2 : decide (f.gen < -1) = true := decide_eq_true hg1
              clear hg1 f2
              go_wp2_with fail
              exact HX1.out _ H2.out.2.1
            · have d2 : decide (f.gen < -1) = false := decide_eq_false hg1
              clear hg1 f2
              have hnew : ∀ g ∈ fs.take (k + 1), FsL pg s g := all_stepT hkeep.out.1 hX.out.1 ⟨H2.out.1, by have := HG.out; omega⟩
              have HR := Lib.hid (And.intro hnew (And.intro (hkeep.out.2.1.fresh H2.out.2.1) ((hkeep.out.2.2.kept H2.out.2.1).more (show N + k ≤ N + (k + 1) by omega)))); clear hnew
              go_wp2_with fail
              go_roundg (n - (k + 1))
              case measure => omega
              case rel => exact ⟨k + 1, by omega, rfl, by go_num, HR.out⟩
    · have hall := hkeep.out.1
      rw [List.take_of_length_le (by have := H.out.2.2.2.1; omega)] at hall
      have HE := Lib.hid (And.intro hall hkeep.out.2); clear hall hkeep
      obtain rfl : k = n := by omega
      go_wp2_with fail
      rw [← HP.out]
      exact ⟨true, rfl, fun _ => HE.out.1, HE.out.2.1, HE.out.2.2⟩
end Top
end Go.Proofs.YtdlcooplllimeaaGreatDoor

/- state: a thread. -/
namespace Go.Proofs.YtdlcooplllimeaaGreatDoor
open Go.RowKit

attribute [local go_sem ↓] Go.wp_at_zero Go.wp_at_succ

namespace Top
def ThL (pg : Pg) (s : Stt) (t : Th) : Prop := (∀ f ∈ t.frames, FsL pg s f) ∧ fitsS s t.val ∧ (t.state = 1 → 0 ≤ t.on ∧ t.on < s.cells.length)
def ThPost (pg : Pg) (s : Stt) (M N : Nat) (t : Th) (w : World) (e : Ending) (w' : World) : Prop := ∃ b : Bool, e = .returned (.bool b) ∧ (b = true → ThL pg s t) ∧ Mapt M w w' ∧ MapN w' 3 M N
set_option maxHeartbeats 3200000 in
set_option maxRecDepth 100000 in
theorem thread_any (w : World) (L p M N B hc : Nat) (HA : Option Addr) (pg : Pg) (s : Stt) (t : Th) (h : LkA w L p M pg s) (hm : MapN w 3 M N) (hA : At w B HA t.frames) (hB : B ≤ w.heap.size) (hN : N + t.frames.length ≤ 1000000) (hcd : CdOk pg) (hcl : s.cells.length ≤ 300) (hv1 : I64 t.val.1) (hv2 : I64 t.val.2) (hth : s.threads.length ≤ 5) :
    Calls Tryz.prog 92 #[.pointer (some ⟨L, 0, none⟩), .agg #[.slice HA t.frames.length hc, .int .i64 t.state, .int .i64 t.on, .int .i64 t.val.1, .int .i64 t.val.2]] w (ThPost pg s M (N + t.frames.length) t w) := by
  obtain ⟨P, hP⟩ : ∃ P, ThPost pg s M (N + t.frames.length) t w = P := ⟨_, rfl⟩
  have HP := Lib.hid hP; rw [hP]; clear hP
  have hLlt := h.lt
  have hplt := h.st.lt
  have hfin : ∀ (w' : World), Below w.heap.size w w' → P (.returned (.bool false)) w' := by
    intro w' hb
    rw [← HP.out]
    exact ⟨false, rfl, fun h => (by cases h), (Mapt.refl hm.isMap).fresh hb, (hm.kept hb).more (by omega)⟩
  have HN := Lib.hid hfin; clear hfin
  have H := Lib.hid (And.intro h (And.intro hm (And.intro hA (And.intro hcd (And.intro hv1 hv2))))); clear h hm hA hcd hv1 hv2
  go_enter Tryz.func92, Tryz.ntmps92
  go_upto_region 1 with fail
  refine wp_world (fun W => Blk W w.heap.size 98 #[.slice HA t.frames.length hc, .int .i64 t.state, .int .i64 t.on, .int .i64 t.val.1, .int .i64 t.val.2] ∧ Below w.heap.size w W ∧ w.heap.size + 1 ≤ W.heap.size) ⟨Blk.new _ _ _, (Below.refl _ _).alloc (Nat.le_refl _) _, by simp⟩ ?_
  rintro W ⟨hT, hbW, hsW⟩
  have hLW := H.out.1.fresh hbW
  have hft := fun Z (hZ : Below W.heap.size W Z) => Fits_any Z p s t.val.1 t.val.2 (hLW.st.fresh hZ) H.out.2.2.2.2.1 H.out.2.2.2.2.2
  have hLW2 := hLW
  obtain ⟨GA, CA, PA, XA, YA, gc, cc, pc, xc, yc, X, Y, k1, k2, -⟩ := hLW2
  obtain ⟨SA, q2, q3, TA, q5, q6, sc, r2, r3, tc, r5, r6, s1, -⟩ := k2
  have c1 := hT.cell 1 (v := .int .i64 t.state) rfl
  have HW := Lib.hid (And.intro hT (And.intro hbW (And.intro k1 (And.intro hLW (And.intro hft s1))))); clear hT hbW k1 hLW hft s1
  go_cut [5] from 8 to 15 (fun v5 W2 => ∃ bo : Bool, v5 = .bool bo ∧ W2 = W)
  case first =>
    by_cases o3 : t.state = 3
    · have d3 : (t.state == 3) = true := by rw [o3]; rfl
      clear o3
      go_wp2_with fail
      go_meet
      exact ⟨_, rfl, rfl⟩
    · have d3 : (t.state == 3) = false := by simpa using o3
      clear o3
      go_wp2_with fail
      go_meet
      exact ⟨_, rfl, rfl⟩
  case rest =>
  obtain ⟨bo, rfl, hwc⟩ := hcut
  have hwc2 := hwc.symm
  subst hwc2
  clear c1
  go_upto_region 2 with fail
  go_cut [47] from 16 to 47 (fun v47 W2 => ∃ b : Bool, v47 = .bool b ∧ Hid ((b = false → fitsS s t.val) ∧ Below W.heap.size W W2))
  case first =>
    have BX : Below W.heap.size W W.drew := (Below.refl _ _).drew
    by_cases hl0 : (t.frames.length : Int) = 0
    · have dl : ((t.frames.length : Int) == 0) = true := by rw [hl0]; rfl
      clear hl0
      cases bo with
      | false =>
        refine wp_region_held_drew (S := (fun w' => w'.cell? ⟨w.heap.size, 0, none⟩ = some (.slice HA t.frames.length hc) ∧ w'.cell? ⟨w.heap.size, 1, none⟩ = some (.int .i64 t.state) ∧ w'.cell? ⟨w.heap.size, 3, none⟩ = some (.int .i64 t.val.1) ∧ w'.cell? ⟨w.heap.size, 4, none⟩ = some (.int .i64 t.val.2) ∧ w'.cell? ⟨L, 3, none⟩ = some (.pointer (some ⟨p, 0, none⟩)))) (by kernel_rfl) ?_ (fun hHeld0 => ?_)
        · first | trivial | ((try dsimp only); (exact ⟨(HW.out.1.fresh BX).cell 0 rfl, (HW.out.1.fresh BX).cell 1 rfl, (HW.out.1.fresh BX).cell 3 rfl, (HW.out.1.fresh BX).cell 4 rfl, (HW.out.2.2.1.fresh BX).cell 3 rfl⟩))
        refine htk 0 rfl ?_
        try go_frame
        refine htk 1 rfl ?_
        try go_frame
        refine htk 2 rfl ?_
        try go_frame
        refine htk 3 rfl ?_
        try go_frame
        refine htk 4 rfl ?_
        try go_frame
        refine htk 5 rfl ?_
        try go_frame
        refine htk 6 rfl ?_
        try go_frame
        refine hsk 7 rfl ?_
        try go_frame
        refine hsk 8 rfl ?_
        try go_frame
        refine hsk 9 rfl ?_
        try go_frame
        refine hsk 10 rfl ?_
        try go_frame
        refine hsk 11 rfl ?_
        try go_frame
        refine hsk 12 rfl ?_
        try go_frame
        refine hsk 13 rfl ?_
        try go_frame
        refine hsk 14 rfl ?_
        try go_frame
        refine htk 15 rfl ?_
        try go_frame
        refine htk 16 rfl ?_
        try go_frame
        refine hsk 17 rfl ?_
        try go_frame
        refine hsk 18 rfl ?_
        try go_frame
        refine hsk 19 rfl ?_
        try go_frame
        refine hsk 20 rfl ?_
        try go_frame
        refine hsk 21 rfl ?_
        try go_frame
        refine hsk 22 rfl ?_
        try go_frame
        refine hsk 23 rfl ?_
        try go_frame
        refine hsk 24 rfl ?_
        try go_frame
        refine htk 25 rfl ?_
        try go_frame
        refine htk 26 rfl ?_
        try go_frame
        refine hsk 27 rfl ?_
        try go_frame
        refine hsk 28 rfl ?_
        try go_frame
        refine hsk 29 rfl ?_
        try go_frame
        refine hsk 30 rfl ?_
        try go_frame
        refine htk 31 rfl ?_
        try go_frame
        refine wpAnyH_done (by kernel_rfl) ?_ _
        go_wp2_with fail
        go_meet
        exact ⟨_, rfl, ⟨fun h => (by cases h), BX⟩⟩
      | true =>
        refine wp_region_held_drew (S := (fun w' => w'.cell? ⟨w.heap.size, 0, none⟩ = some (.slice HA t.frames.length hc) ∧ w'.cell? ⟨w.heap.size, 1, none⟩ = some (.int .i64 t.state) ∧ w'.cell? ⟨w.heap.size, 3, none⟩ = some (.int .i64 t.val.1) ∧ w'.cell? ⟨w.heap.size, 4, none⟩ = some (.int .i64 t.val.2) ∧ w'.cell? ⟨L, 3, none⟩ = some (.pointer (some ⟨p, 0, none⟩)))) (by kernel_rfl) ?_ (fun hHeld0 => ?_)
        · first | trivial | ((try dsimp only); (exact ⟨(HW.out.1.fresh BX).cell 0 rfl, (HW.out.1.fresh BX).cell 1 rfl, (HW.out.1.fresh BX).cell 3 rfl, (HW.out.1.fresh BX).cell 4 rfl, (HW.out.2.2.1.fresh BX).cell 3 rfl⟩))
        refine htk 0 rfl ?_
        try go_frame
        refine htk 1 rfl ?_
        try go_frame
        refine htk 2 rfl ?_
        try go_frame
        refine htk 3 rfl ?_
        try go_frame
        refine htk 4 rfl ?_
        try go_frame
        refine htk 5 rfl ?_
        try go_frame
        refine htk 6 rfl ?_
        try go_frame
        refine htk 7 rfl ?_
        try go_frame
        refine htk 8 rfl ?_
        try go_frame
        refine htk 9 rfl ?_
        try go_frame
        refine hsk 10 rfl ?_
        try go_frame
        refine hsk 11 rfl ?_
        try go_frame
        refine hsk 12 rfl ?_
        try go_frame
        refine hsk 13 rfl ?_
        try go_frame
        refine htk 14 rfl ?_
        try go_frame
        refine htk 15 rfl ?_
        try go_frame
        refine htk 16 rfl ?_
        try go_frame
        refine htk 17 rfl ?_
        try go_frame
        refine htk 18 rfl ?_
        try go_frame
        refine htk 19 rfl ?_
        try go_frame
        refine htk 20 rfl ?_
        try go_frame
        refine htk 21 rfl ?_
        try go_frame
        refine htk 22 rfl ?_
        try go_frame
        refine held_call 23 (by kernel_rfl) rfl (fun K hK => ?_)
        go_simp
        refine (HW.out.2.2.2.2.1 _ BX).mono ?_; rintro e wA ⟨bS, rfl, hq, hbA⟩; have BY := BX.trans (hbA.mono BX.size); clear BX; have BX := BY; clear BY
        cases bS with
        | false =>
          try (go_wp2_with fail)
          refine hK.out _ _ ?_ (fun hHeld1 => ?_)
          · first | trivial | ((try dsimp only); (exact ⟨(HW.out.1.fresh BX).cell 0 rfl, (HW.out.1.fresh BX).cell 1 rfl, (HW.out.1.fresh BX).cell 3 rfl, (HW.out.1.fresh BX).cell 4 rfl, (HW.out.2.2.1.fresh BX).cell 3 rfl⟩))
          clear hK K hHeld0
          try go_frame
          refine htk 24 rfl ?_
          try go_frame
          refine htk 25 rfl ?_
          try go_frame
          refine htk 26 rfl ?_
          try go_frame
          refine hsk 27 rfl ?_
          try go_frame
          refine hsk 28 rfl ?_
          try go_frame
          refine hsk 29 rfl ?_
          try go_frame
          refine hsk 30 rfl ?_
          try go_frame
          refine htk 31 rfl ?_
          try go_frame
          refine wpAnyH_done (by kernel_rfl) ?_ _
          go_wp2_with fail
          go_meet
          exact ⟨_, rfl, ⟨fun h => (by cases h), BX⟩⟩
        | true =>
          try (go_wp2_with fail)
          refine hK.out _ _ ?_ (fun hHeld1 => ?_)
          · first | trivial | ((try dsimp only); (exact ⟨(HW.out.1.fresh BX).cell 0 rfl, (HW.out.1.fresh BX).cell 1 rfl, (HW.out.1.fresh BX).cell 3 rfl, (HW.out.1.fresh BX).cell 4 rfl, (HW.out.2.2.1.fresh BX).cell 3 rfl⟩))
          clear hK K hHeld0
          try go_frame
          refine htk 24 rfl ?_
          try go_frame
          refine htk 25 rfl ?_
          try go_frame
          refine htk 26 rfl ?_
          try go_frame
          refine htk 27 rfl ?_
          try go_frame
          refine htk 28 rfl ?_
          try go_frame
          refine held_call 29 (by kernel_rfl) rfl (fun K hK => ?_)
          go_simp
          refine (swithin_any t.state 0 4 _).mono ?_; rintro e wB ⟨rfl, rfl⟩
          try (go_wp2_with fail)
          refine hK.out _ _ ?_ (fun hHeld2 => ?_)
          · first | trivial | ((try dsimp only); (exact ⟨(HW.out.1.fresh BX).cell 0 rfl, (HW.out.1.fresh BX).cell 1 rfl, (HW.out.1.fresh BX).cell 3 rfl, (HW.out.1.fresh BX).cell 4 rfl, (HW.out.2.2.1.fresh BX).cell 3 rfl⟩))
          clear hK K hHeld1
          try go_frame
          refine htk 30 rfl ?_
          try go_frame
          refine htk 31 rfl ?_
          try go_frame
          refine wpAnyH_done (by kernel_rfl) ?_ _
          have hq2 := hq (by simp)
          go_wp2_with fail
          go_meet
          exact ⟨_, rfl, ⟨fun _ => hq2, BX⟩⟩
    have dl : ((t.frames.length : Int) == 0) = false := by simpa using hl0
    clear hl0
    cases bo with
    | true =>
      refine wp_region_held_drew (S := (fun w' => w'.cell? ⟨w.heap.size, 0, none⟩ = some (.slice HA t.frames.length hc) ∧ w'.cell? ⟨w.heap.size, 1, none⟩ = some (.int .i64 t.state) ∧ w'.cell? ⟨w.heap.size, 3, none⟩ = some (.int .i64 t.val.1) ∧ w'.cell? ⟨w.heap.size, 4, none⟩ = some (.int .i64 t.val.2) ∧ w'.cell? ⟨L, 3, none⟩ = some (.pointer (some ⟨p, 0, none⟩)))) (by kernel_rfl) ?_ (fun hHeld0 => ?_)
      · first | trivial | ((try dsimp only); (exact ⟨(HW.out.1.fresh BX).cell 0 rfl, (HW.out.1.fresh BX).cell 1 rfl, (HW.out.1.fresh BX).cell 3 rfl, (HW.out.1.fresh BX).cell 4 rfl, (HW.out.2.2.1.fresh BX).cell 3 rfl⟩))
      refine htk 0 rfl ?_
      try go_frame
      refine htk 1 rfl ?_
      try go_frame
      refine htk 2 rfl ?_
      try go_frame
      refine htk 3 rfl ?_
      try go_frame
      refine htk 4 rfl ?_
      try go_frame
      refine htk 5 rfl ?_
      try go_frame
      refine htk 6 rfl ?_
      try go_frame
      refine hsk 7 rfl ?_
      try go_frame
      refine hsk 8 rfl ?_
      try go_frame
      refine hsk 9 rfl ?_
      try go_frame
      refine hsk 10 rfl ?_
      try go_frame
      refine hsk 11 rfl ?_
      try go_frame
      refine hsk 12 rfl ?_
      try go_frame
      refine hsk 13 rfl ?_
      try go_frame
      refine hsk 14 rfl ?_
      try go_frame
      refine htk 15 rfl ?_
      try go_frame
      refine htk 16 rfl ?_
      try go_frame
      refine hsk 17 rfl ?_
      try go_frame
      refine hsk 18 rfl ?_
      try go_frame
      refine hsk 19 rfl ?_
      try go_frame
      refine hsk 20 rfl ?_
      try go_frame
      refine hsk 21 rfl ?_
      try go_frame
      refine hsk 22 rfl ?_
      try go_frame
      refine hsk 23 rfl ?_
      try go_frame
      refine hsk 24 rfl ?_
      try go_frame
      refine htk 25 rfl ?_
      try go_frame
      refine htk 26 rfl ?_
      try go_frame
      refine hsk 27 rfl ?_
      try go_frame
      refine hsk 28 rfl ?_
      try go_frame
      refine hsk 29 rfl ?_
      try go_frame
      refine hsk 30 rfl ?_
      try go_frame
      refine htk 31 rfl ?_
      try go_frame
      refine wpAnyH_done (by kernel_rfl) ?_ _
      go_wp2_with fail
      go_meet
      exact ⟨_, rfl, ⟨fun h => (by cases h), BX⟩⟩
    | false =>
    by_cases z1 : t.val.1 = 0
    · have e1 : (t.val.1 == 0) = true := by rw [z1]; rfl
      clear z1
      by_cases z2 : t.val.2 = 0
      · have e2 : (t.val.2 == 0) = true := by rw [z2]; rfl
        clear z2
        refine wp_region_held_drew (S := (fun w' => w'.cell? ⟨w.heap.size, 0, none⟩ = some (.slice HA t.frames.length hc) ∧ w'.cell? ⟨w.heap.size, 1, none⟩ = some (.int .i64 t.state) ∧ w'.cell? ⟨w.heap.size, 3, none⟩ = some (.int .i64 t.val.1) ∧ w'.cell? ⟨w.heap.size, 4, none⟩ = some (.int .i64 t.val.2) ∧ w'.cell? ⟨L, 3, none⟩ = some (.pointer (some ⟨p, 0, none⟩)))) (by kernel_rfl) ?_ (fun hHeld0 => ?_)
        · first | trivial | ((try dsimp only); (exact ⟨(HW.out.1.fresh BX).cell 0 rfl, (HW.out.1.fresh BX).cell 1 rfl, (HW.out.1.fresh BX).cell 3 rfl, (HW.out.1.fresh BX).cell 4 rfl, (HW.out.2.2.1.fresh BX).cell 3 rfl⟩))
        refine htk 0 rfl ?_
        try go_frame
        refine htk 1 rfl ?_
        try go_frame
        refine htk 2 rfl ?_
        try go_frame
        refine htk 3 rfl ?_
        try go_frame
        refine htk 4 rfl ?_
        try go_frame
        refine htk 5 rfl ?_
        try go_frame
        refine htk 6 rfl ?_
        try go_frame
        refine htk 7 rfl ?_
        try go_frame
        refine htk 8 rfl ?_
        try go_frame
        refine htk 9 rfl ?_
        try go_frame
        refine htk 10 rfl ?_
        try go_frame
        refine htk 11 rfl ?_
        try go_frame
        refine htk 12 rfl ?_
        try go_frame
        refine htk 13 rfl ?_
        try go_frame
        refine htk 14 rfl ?_
        try go_frame
        refine htk 15 rfl ?_
        try go_frame
        refine htk 16 rfl ?_
        try go_frame
        refine htk 17 rfl ?_
        try go_frame
        refine htk 18 rfl ?_
        try go_frame
        refine htk 19 rfl ?_
        try go_frame
        refine htk 20 rfl ?_
        try go_frame
        refine htk 21 rfl ?_
        try go_frame
        refine htk 22 rfl ?_
        try go_frame
        refine held_call 23 (by kernel_rfl) rfl (fun K hK => ?_)
        go_simp
        refine (HW.out.2.2.2.2.1 _ BX).mono ?_; rintro e wA ⟨bS, rfl, hq, hbA⟩; have BY := BX.trans (hbA.mono BX.size); clear BX; have BX := BY; clear BY
        cases bS with
        | false =>
          try (go_wp2_with fail)
          refine hK.out _ _ ?_ (fun hHeld1 => ?_)
          · first | trivial | ((try dsimp only); (exact ⟨(HW.out.1.fresh BX).cell 0 rfl, (HW.out.1.fresh BX).cell 1 rfl, (HW.out.1.fresh BX).cell 3 rfl, (HW.out.1.fresh BX).cell 4 rfl, (HW.out.2.2.1.fresh BX).cell 3 rfl⟩))
          clear hK K hHeld0
          try go_frame
          refine htk 24 rfl ?_
          try go_frame
          refine htk 25 rfl ?_
          try go_frame
          refine htk 26 rfl ?_
          try go_frame
          refine hsk 27 rfl ?_
          try go_frame
          refine hsk 28 rfl ?_
          try go_frame
          refine hsk 29 rfl ?_
          try go_frame
          refine hsk 30 rfl ?_
          try go_frame
          refine htk 31 rfl ?_
          try go_frame
          refine wpAnyH_done (by kernel_rfl) ?_ _
          go_wp2_with fail
          go_meet
          exact ⟨_, rfl, ⟨fun h => (by cases h), BX⟩⟩
        | true =>
          try (go_wp2_with fail)
          refine hK.out _ _ ?_ (fun hHeld1 => ?_)
          · first | trivial | ((try dsimp only); (exact ⟨(HW.out.1.fresh BX).cell 0 rfl, (HW.out.1.fresh BX).cell 1 rfl, (HW.out.1.fresh BX).cell 3 rfl, (HW.out.1.fresh BX).cell 4 rfl, (HW.out.2.2.1.fresh BX).cell 3 rfl⟩))
          clear hK K hHeld0
          try go_frame
          refine htk 24 rfl ?_
          try go_frame
          refine htk 25 rfl ?_
          try go_frame
          refine htk 26 rfl ?_
          try go_frame
          refine htk 27 rfl ?_
          try go_frame
          refine htk 28 rfl ?_
          try go_frame
          refine held_call 29 (by kernel_rfl) rfl (fun K hK => ?_)
          go_simp
          refine (swithin_any t.state 0 4 _).mono ?_; rintro e wB ⟨rfl, rfl⟩
          try (go_wp2_with fail)
          refine hK.out _ _ ?_ (fun hHeld2 => ?_)
          · first | trivial | ((try dsimp only); (exact ⟨(HW.out.1.fresh BX).cell 0 rfl, (HW.out.1.fresh BX).cell 1 rfl, (HW.out.1.fresh BX).cell 3 rfl, (HW.out.1.fresh BX).cell 4 rfl, (HW.out.2.2.1.fresh BX).cell 3 rfl⟩))
          clear hK K hHeld1
          try go_frame
          refine htk 30 rfl ?_
          try go_frame
          refine htk 31 rfl ?_
          try go_frame
          refine wpAnyH_done (by kernel_rfl) ?_ _
          have hq2 := hq (by simp)
          go_wp2_with fail
          go_meet
          exact ⟨_, rfl, ⟨fun _ => hq2, BX⟩⟩
      have e2 : (t.val.2 == 0) = false := by simpa using z2
      clear z2
      refine wp_region_held_drew (S := (fun w' => w'.cell? ⟨w.heap.size, 0, none⟩ = some (.slice HA t.frames.length hc) ∧ w'.cell? ⟨w.heap.size, 1, none⟩ = some (.int .i64 t.state) ∧ w'.cell? ⟨w.heap.size, 3, none⟩ = some (.int .i64 t.val.1) ∧ w'.cell? ⟨w.heap.size, 4, none⟩ = some (.int .i64 t.val.2) ∧ w'.cell? ⟨L, 3, none⟩ = some (.pointer (some ⟨p, 0, none⟩)))) (by kernel_rfl) ?_ (fun hHeld0 => ?_)
      · first | trivial | ((try dsimp only); (exact ⟨(HW.out.1.fresh BX).cell 0 rfl, (HW.out.1.fresh BX).cell 1 rfl, (HW.out.1.fresh BX).cell 3 rfl, (HW.out.1.fresh BX).cell 4 rfl, (HW.out.2.2.1.fresh BX).cell 3 rfl⟩))
      refine htk 0 rfl ?_
      try go_frame
      refine htk 1 rfl ?_
      try go_frame
      refine htk 2 rfl ?_
      try go_frame
      refine htk 3 rfl ?_
      try go_frame
      refine htk 4 rfl ?_
      try go_frame
      refine htk 5 rfl ?_
      try go_frame
      refine htk 6 rfl ?_
      try go_frame
      refine htk 7 rfl ?_
      try go_frame
      refine htk 8 rfl ?_
      try go_frame
      refine htk 9 rfl ?_
      try go_frame
      refine htk 10 rfl ?_
      try go_frame
      refine htk 11 rfl ?_
      try go_frame
      refine htk 12 rfl ?_
      try go_frame
      refine htk 13 rfl ?_
      try go_frame
      refine htk 14 rfl ?_
      try go_frame
      refine htk 15 rfl ?_
      try go_frame
      refine htk 16 rfl ?_
      try go_frame
      refine hsk 17 rfl ?_
      try go_frame
      refine hsk 18 rfl ?_
      try go_frame
      refine hsk 19 rfl ?_
      try go_frame
      refine hsk 20 rfl ?_
      try go_frame
      refine hsk 21 rfl ?_
      try go_frame
      refine hsk 22 rfl ?_
      try go_frame
      refine hsk 23 rfl ?_
      try go_frame
      refine hsk 24 rfl ?_
      try go_frame
      refine htk 25 rfl ?_
      try go_frame
      refine htk 26 rfl ?_
      try go_frame
      refine hsk 27 rfl ?_
      try go_frame
      refine hsk 28 rfl ?_
      try go_frame
      refine hsk 29 rfl ?_
      try go_frame
      refine hsk 30 rfl ?_
      try go_frame
      refine htk 31 rfl ?_
      try go_frame
      refine wpAnyH_done (by kernel_rfl) ?_ _
      go_wp2_with fail
      go_meet
      exact ⟨_, rfl, ⟨fun h => (by cases h), BX⟩⟩
    have e1 : (t.val.1 == 0) = false := by simpa using z1
    clear z1
    refine wp_region_held_drew (S := (fun w' => w'.cell? ⟨w.heap.size, 0, none⟩ = some (.slice HA t.frames.length hc) ∧ w'.cell? ⟨w.heap.size, 1, none⟩ = some (.int .i64 t.state) ∧ w'.cell? ⟨w.heap.size, 3, none⟩ = some (.int .i64 t.val.1) ∧ w'.cell? ⟨w.heap.size, 4, none⟩ = some (.int .i64 t.val.2) ∧ w'.cell? ⟨L, 3, none⟩ = some (.pointer (some ⟨p, 0, none⟩)))) (by kernel_rfl) ?_ (fun hHeld0 => ?_)
    · first | trivial | ((try dsimp only); (exact ⟨(HW.out.1.fresh BX).cell 0 rfl, (HW.out.1.fresh BX).cell 1 rfl, (HW.out.1.fresh BX).cell 3 rfl, (HW.out.1.fresh BX).cell 4 rfl, (HW.out.2.2.1.fresh BX).cell 3 rfl⟩))
    refine htk 0 rfl ?_
    try go_frame
    refine htk 1 rfl ?_
    try go_frame
    refine htk 2 rfl ?_
    try go_frame
    refine htk 3 rfl ?_
    try go_frame
    refine htk 4 rfl ?_
    try go_frame
    refine htk 5 rfl ?_
    try go_frame
    refine htk 6 rfl ?_
    try go_frame
    refine htk 7 rfl ?_
    try go_frame
    refine htk 8 rfl ?_
    try go_frame
    refine htk 9 rfl ?_
    try go_frame
    refine htk 10 rfl ?_
    try go_frame
    refine htk 11 rfl ?_
    try go_frame
    refine htk 12 rfl ?_
    try go_frame
    refine htk 13 rfl ?_
    try go_frame
    refine htk 14 rfl ?_
    try go_frame
    refine htk 15 rfl ?_
    try go_frame
    refine htk 16 rfl ?_
    try go_frame
    refine hsk 17 rfl ?_
    try go_frame
    refine hsk 18 rfl ?_
    try go_frame
    refine hsk 19 rfl ?_
    try go_frame
    refine hsk 20 rfl ?_
    try go_frame
    refine hsk 21 rfl ?_
    try go_frame
    refine hsk 22 rfl ?_
    try go_frame
    refine hsk 23 rfl ?_
    try go_frame
    refine hsk 24 rfl ?_
    try go_frame
    refine htk 25 rfl ?_
    try go_frame
    refine htk 26 rfl ?_
    try go_frame
    refine hsk 27 rfl ?_
    try go_frame
    refine hsk 28 rfl ?_
    try go_frame
    refine hsk 29 rfl ?_
    try go_frame
    refine hsk 30 rfl ?_
    try go_frame
    refine htk 31 rfl ?_
    try go_frame
    refine wpAnyH_done (by kernel_rfl) ?_ _
    go_wp2_with fail
    go_meet
    exact ⟨_, rfl, ⟨fun h => (by cases h), BX⟩⟩
  case rest =>
  obtain ⟨b47, rfl, hk⟩ := hcut
  have hbc := hk.out.2
  have hbcs := hbc.size
  have hb0 : Below w.heap.size w wc := HW.out.2.1.trans (hbc.mono (by omega))
  cases b47 with
  | true =>
    have HE := Lib.hid hb0; clear hbc hb0
    go_wp2_with fail
    exact HN.out _ HE.out
  | false =>
  have c1 := (HW.out.1.fresh hbc).cell 1 (v := .int .i64 t.state) rfl
  have c2 := (HW.out.1.fresh hbc).cell 2 (v := .int .i64 t.on) rfl
  have HB := Lib.hid (And.intro hb0 hbc); clear hb0 hbc
  by_cases o1 : t.state = 1
  · have d1 : (t.state == 1) = true := by rw [o1]; rfl
    clear o1
    have hlc := lcell_any wc L p M pg s 5 t.on 6 (HW.out.2.2.2.1.fresh HB.out.2) hcl
    have HLC := Lib.hid hlc; clear hlc
    go_wp2_with fail
    refine HLC.out.mono ?_
    rintro e w4 ⟨a, m', A1, A2, n1, c1', n2, c2', bC, rfl, hisC, hb4⟩
    have HC := Lib.hid (And.intro hisC hb4); clear hisC hb4 c1 c2
    go_upto_region 9 with fail
    refine wp_world (fun Z => Below W.heap.size W Z) ((HB.out.2.trans (HC.out.2.mono hbcs)).alloc (by have := HC.out.2.size; omega) _) ?_
    rintro Z hZ
    cases bC with
    | false =>
      have HE := Lib.hid (HW.out.2.1.trans (hZ.mono (by omega))); clear hZ
      go_wp2_with fail
      exact HN.out _ HE.out
    | true =>
      have hZs := hZ.size
      have hb0Z : Below w.heap.size w Z := HW.out.2.1.trans (hZ.mono (by omega))
      have f0 := (HW.out.1.fresh hZ).cell 0 (v := .slice HA t.frames.length hc) rfl
      have hst := stack_any Z L p M N B hc t.frames.length HA pg s t.frames rfl (HW.out.2.2.2.1.fresh hZ) (H.out.2.1.kept hb0Z) (H.out.2.2.1.below (hb0Z.mono hB)) (by omega) hN H.out.2.2.2.1 hcl
      have HS := Lib.hid (And.intro hst hb0Z); clear hst hb0Z hZ
      go_wp2_with fail
      refine HS.out.1.mono ?_
      rintro e w9 ⟨b9, rfl, h9, hmt, hmn⟩
      have H9 := Lib.hid (And.intro h9 (And.intro (((Mapt.refl H.out.2.1.isMap).fresh HS.out.2).trans hmt) hmn)); clear h9 hmt hmn f0
      go_wp2_with fail
      rw [← HP.out]
      exact ⟨_, rfl, fun hb9 => ⟨H9.out.1 hb9, hk.out.1 (by simp), fun _ => (by obtain ⟨-, j, c0, x1, x2, -⟩ := HC.out.1 (by simp); have x1 : t.on = (j : Int) := x1; have := (List.getElem?_eq_some_iff.1 x2).1; omega)⟩, H9.out.2⟩
  have d1 : (t.state == 1) = false := by simpa using o1
  have HO := Lib.hid o1; clear o1
  by_cases o2 : t.state = 2
  · have d2 : (t.state == 2) = true := by rw [o2]; rfl
    clear o2
    have hwl : IntKind.i64.wrap ((s.threads.length : Int) - 1) = (s.threads.length : Int) - 1 := IntWalk.i64_in _ (by omega)
    obtain ⟨bw, hbw⟩ : ∃ b, (decide (0 ≤ t.on) && decide (t.on ≤ (s.threads.length : Int) - 1)) = b := ⟨_, rfl⟩
    have hwi := fun V => swithin_any t.on 0 ((s.threads.length : Int) - 1) V
    rw [hbw] at hwi
    have HWI := Lib.hid hwi; clear hwi hbw
    have BX : Below wc.heap.size wc wc.drew := (Below.refl _ _).drew
    go_upto_region 12 with fail
    clear c1 c2
    refine wp_region_held_drew (S := (fun w' => w'.cell? ⟨w.heap.size, 2, none⟩ = some (.int .i64 t.on) ∧ w'.cell? ⟨L, 3, none⟩ = some (.pointer (some ⟨p, 0, none⟩)) ∧ w'.cell? ⟨p, 3, none⟩ = some (.slice TA s.threads.length tc))) (by kernel_rfl) ?_ (fun hHeld0 => ?_)
    · first | trivial | ((try dsimp only); (exact ⟨((HW.out.1.fresh HB.out.2).fresh BX).cell 2 rfl, ((HW.out.2.2.1.fresh HB.out.2).fresh BX).cell 3 rfl, ((HW.out.2.2.2.2.2.fresh HB.out.2).fresh BX).cell 3 rfl⟩))
    refine htk 0 rfl ?_
    try go_frame
    refine htk 1 rfl ?_
    try go_frame
    refine htk 2 rfl ?_
    try go_frame
    refine htk 3 rfl ?_
    try go_frame
    refine htk 4 rfl ?_
    try go_frame
    refine htk 5 rfl ?_
    try go_frame
    refine htk 6 rfl ?_
    try go_frame
    refine htk 7 rfl ?_
    try go_frame
    refine htk 8 rfl ?_
    try go_frame
    refine htk 9 rfl ?_
    try go_frame
    refine htk 10 rfl ?_
    try go_frame
    refine held_call 11 (by kernel_rfl) rfl (fun K hK => ?_)
    go_simp
    refine (HWI.out _).mono ?_; rintro e wA ⟨rfl, rfl⟩
    try (go_wp2_with fail)
    refine hK.out _ _ ?_ (fun hHeld1 => ?_)
    · first | trivial | ((try dsimp only); (exact ⟨((HW.out.1.fresh HB.out.2).fresh BX).cell 2 rfl, ((HW.out.2.2.1.fresh HB.out.2).fresh BX).cell 3 rfl, ((HW.out.2.2.2.2.2.fresh HB.out.2).fresh BX).cell 3 rfl⟩))
    clear hK K hHeld0
    try go_frame
    refine htk 12 rfl ?_
    try go_frame
    refine wpAnyH_done (by kernel_rfl) ?_ _
    clear hwl
    cases bw with
    | false =>
      go_wp2_with fail
      exact HN.out _ (HB.out.1.trans (BX.mono (by omega)))
    | true =>
      go_upto_region 14 with fail
      refine wp_world (fun Z => Below W.heap.size W Z) (HB.out.2.trans (BX.mono hbcs)) ?_
      clear BX
      rintro Z hZ
      have hZs := hZ.size
      have hb0Z : Below w.heap.size w Z := HW.out.2.1.trans (hZ.mono (by omega))
      have f0 := (HW.out.1.fresh hZ).cell 0 (v := .slice HA t.frames.length hc) rfl
      have hst := stack_any Z L p M N B hc t.frames.length HA pg s t.frames rfl (HW.out.2.2.2.1.fresh hZ) (H.out.2.1.kept hb0Z) (H.out.2.2.1.below (hb0Z.mono hB)) (by omega) hN H.out.2.2.2.1 hcl
      have HS := Lib.hid (And.intro hst hb0Z); clear hst hb0Z hZ
      go_wp2_with fail
      refine HS.out.1.mono ?_
      rintro e w9 ⟨b9, rfl, h9, hmt, hmn⟩
      have H9 := Lib.hid (And.intro h9 (And.intro (((Mapt.refl H.out.2.1.isMap).fresh HS.out.2).trans hmt) hmn)); clear h9 hmt hmn f0
      go_wp2_with fail
      rw [← HP.out]
      exact ⟨_, rfl, fun hb9 => ⟨H9.out.1 hb9, hk.out.1 (by simp), fun ho => absurd ho HO.out⟩, H9.out.2⟩
  have d2 : (t.state == 2) = false := by simpa using o2
  clear o2
  by_cases on0 : t.on = 0
  · have e0 : (t.on == 0) = true := by rw [on0]; rfl
    have e1 : (t.on != 0) = false := by rw [on0]; rfl
    clear on0
    go_upto_region 14 with fail
    refine wp_world (fun Z => Below W.heap.size W Z) HB.out.2 ?_
    clear c1 c2
    rintro Z hZ
    have hZs := hZ.size
    have hb0Z : Below w.heap.size w Z := HW.out.2.1.trans (hZ.mono (by omega))
    have f0 := (HW.out.1.fresh hZ).cell 0 (v := .slice HA t.frames.length hc) rfl
    have hst := stack_any Z L p M N B hc t.frames.length HA pg s t.frames rfl (HW.out.2.2.2.1.fresh hZ) (H.out.2.1.kept hb0Z) (H.out.2.2.1.below (hb0Z.mono hB)) (by omega) hN H.out.2.2.2.1 hcl
    have HS := Lib.hid (And.intro hst hb0Z); clear hst hb0Z hZ
    go_wp2_with fail
    refine HS.out.1.mono ?_
    rintro e w9 ⟨b9, rfl, h9, hmt, hmn⟩
    have H9 := Lib.hid (And.intro h9 (And.intro (((Mapt.refl H.out.2.1.isMap).fresh HS.out.2).trans hmt) hmn)); clear h9 hmt hmn f0
    go_wp2_with fail
    rw [← HP.out]
    exact ⟨_, rfl, fun hb9 => ⟨H9.out.1 hb9, hk.out.1 (by simp), fun ho => absurd ho HO.out⟩, H9.out.2⟩
  · have e0 : (t.on == 0) = false := by simpa using on0
    have e1 : (t.on != 0) = true := by simpa using on0
    clear on0
    go_wp2_with fail
    exact HN.out _ HB.out.1
end Top
end Go.Proofs.YtdlcooplllimeaaGreatDoor

/- state: tests of cells, of threads; slices.ContainsFunc over threads with a test that stores into a map. -/
namespace Go.Proofs.YtdlcooplllimeaaGreatDoor
open Go.RowKit

attribute [local go_sem ↓] Go.wp_at_zero Go.wp_at_succ

namespace Top
set_option maxHeartbeats 800000 in
set_option maxRecDepth 100000 in
theorem idxTh_any (A : Option Addr) (c B g n : Nat) (lb : Array Value) (l : List Th) (w : World) (Q : Th → Prop) (I : Nat → World → Prop) (hn : l.length = n) (h0 : I 0 w) (hat : ∀ k V, I k V → At V B A l) (hl : n ≤ 9223372036854775807)
    (eg : ∀ args w, (callFunc g args).run Tryz.prog w = .ok (.enter g args) w) (hp : ∀ (k : Nat) (V : World) (x : Th), l[k]? = some x → I k V → ∀ (Av : Option Addr) (cv : Nat), At V B Av x.frames → (x.frames.length ≤ cv ∧ cv ≤ maxLen) → (I64 x.state ∧ I64 x.on ∧ I64 x.val.1 ∧ I64 x.val.2) →
      Calls Tryz.prog g (#[.agg #[.slice Av x.frames.length cv, .int .i64 x.state, .int .i64 x.on, .int .i64 x.val.1, .int .i64 x.val.2]] ++ lb) V fun e V' => ∃ b : Bool, e = .returned (.bool b) ∧ (b = false → Q x) ∧ I (k + 1) V') :
    Calls Tryz.prog 86 #[.slice A n c, .func (.func g) #[] lb] w fun e w' => ∃ r : Int, e = .returned (.int .i64 r) ∧ (r < 0 → ∀ x ∈ l, Q x) ∧ ∃ k, k ≤ n ∧ I k w' := by
  have H := Lib.hid (And.intro hat (And.intro hn h0)); clear hat hn h0
  have HP := Lib.hid hp; clear hp
  have HE := Lib.hid eg
  go_enter Tryz.func86, Tryz.ntmps86
  go_wp2
  go_loopg [8] n (fun gk i wr => ∃ k : Nat, k ≤ n ∧ gk = n - k ∧ i = .int .i64 k ∧ Hid ((∀ x ∈ l.take k, Q x) ∧ I k wr))
  case atStart => exact ⟨0, Nat.zero_le _, rfl, rfl, ⟨by simp, H.out.2.2⟩⟩
  case round =>
    obtain ⟨k, hk, rfl, rfl, hno⟩ := hrel
    by_cases hlt : k < n
    · obtain ⟨b, o, x, Av, cv, rfl, hb, hx, q0, q1, q2, q3, q4, a0, l0, i0, i1, i2, i3⟩ := (H.out.1 k wr hno.out.2).th_ (k := k) (by have := H.out.2.1; omega)
      have hk0 : (0 : Int) ≤ (k : Int) := by omega
      have hk1 : (k : Int) < (n : Int) := by omega
      have hcall := HP.out k wr x hx hno.out.2 Av cv a0 l0 ⟨i0, i1, i2, i3⟩
      have HX := Lib.hid (And.intro hx hcall); clear hx hcall a0 l0 i0 i1 i2 i3
      go_wp2_with (go_at_fn g; refine Calls.mono HX.out.2 ?_; rintro e w' ⟨bb, rfl, hq, hb'⟩; have HQ := Lib.hid (And.intro hq hb'); clear hq hb'; cases bb)
      · go_wp2_with fail
        go_roundg (n - (k + 1))
        case measure => omega
        case rel => exact ⟨k + 1, by omega, rfl, by go_num, ⟨all_stepT hno.out.1 HX.out.1 (HQ.out.1 (by simp)), HQ.out.2⟩⟩
      · go_wp2_with fail
        go_ret
        exact ⟨k, rfl, fun h => by omega, k + 1, by omega, HQ.out.2⟩
    · go_wp2
      go_ret
      exact ⟨-1, rfl, fun _ => by have h1 := hno.out.1; rw [List.take_of_length_le (by have := H.out.2.1; omega)] at h1; exact h1, k, hk, hno.out.2⟩
set_option maxRecDepth 100000 in
theorem ctTh_any (A : Option Addr) (c B g n : Nat) (lb : Array Value) (l : List Th) (w : World) (Q : Th → Prop) (I : Nat → World → Prop) (hn : l.length = n) (h0 : I 0 w) (hat : ∀ k V, I k V → At V B A l) (hl : n ≤ 9223372036854775807)
    (eg : ∀ args w, (callFunc g args).run Tryz.prog w = .ok (.enter g args) w) (hp : ∀ (k : Nat) (V : World) (x : Th), l[k]? = some x → I k V → ∀ (Av : Option Addr) (cv : Nat), At V B Av x.frames → (x.frames.length ≤ cv ∧ cv ≤ maxLen) → (I64 x.state ∧ I64 x.on ∧ I64 x.val.1 ∧ I64 x.val.2) →
      Calls Tryz.prog g (#[.agg #[.slice Av x.frames.length cv, .int .i64 x.state, .int .i64 x.on, .int .i64 x.val.1, .int .i64 x.val.2]] ++ lb) V fun e V' => ∃ b : Bool, e = .returned (.bool b) ∧ (b = false → Q x) ∧ I (k + 1) V') :
    Calls Tryz.prog 32 #[.slice A n c, .func (.func g) #[] lb] w fun e w' => ∃ b : Bool, e = .returned (.bool b) ∧ (b = false → ∀ x ∈ l, Q x) ∧ ∃ k, k ≤ n ∧ I k w' := by
  have hc := idxTh_any A c B g n lb l w Q I hn h0 hat hl eg hp
  have H := Lib.hid hc; clear hc hp h0 hat hn
  go_enter Tryz.func32, Tryz.ntmps32
  go_wp2_with fail
  refine H.out.mono ?_
  rintro e w1 ⟨r, rfl, hr, hb⟩
  have HR := Lib.hid (And.intro hr hb); clear hr hb
  go_wp2_with fail
  go_returns
  exact ⟨_, rfl, fun h => HR.out.1 (by simpa using h), HR.out.2⟩
theorem egR1 : ∀ args w, (callFunc 89 args).run Tryz.prog w = .ok (.enter 89 args) w := fun _ _ => by kernel_rfl
theorem egR2 : ∀ args w, (callFunc 91 args).run Tryz.prog w = .ok (.enter 91 args) w := fun _ _ => by kernel_rfl
set_option maxRecDepth 100000 in
theorem right1_any (w : World) (L p M q B vc fc : Nat) (VA FA : Option Addr) (pg : Pg) (s : Stt) (c : Ce) (h : LkA w L p M pg s) (hq : Blk w q 100 #[.pointer (some ⟨L, 0, none⟩)]) (hF : At w B FA c.frames) (hB : B ≤ w.heap.size) (hce : CeOk s c) (hcd : CdOk pg) (hcl : s.cells.length ≤ 300) :
    Calls Tryz.prog 89 #[.agg #[.int .i64 c.kind, .int .i64 c.num, .slice VA c.vals.length vc, .slice FA c.frames.length fc], .pointer (some ⟨q, 0, none⟩)] w fun e w' => ∃ b : Bool, e = .returned (.bool b) ∧ (b = false → HpL pg s c) ∧ Below w.heap.size w w' := by
  have hqlt := hq.lt
  have q0 := hq.cell 0 (v := .pointer (some ⟨L, 0, none⟩)) rfl
  have hb0 : Below w.heap.size w (w.alloc (.cells #[.int .i64 c.kind, .int .i64 c.num, .slice VA c.vals.length vc, .slice FA c.frames.length fc] 46)) := (Below.refl _ _).alloc (Nat.le_refl _) _
  have hh := heap_any _ L p M B vc fc VA FA pg s c (h.fresh hb0) (hF.below (hb0.mono hB)) (by simp; omega) hce hcd hcl
  have H := Lib.hid (And.intro hh hb0); clear hh hb0 h hq hF hce hcd
  go_enter Tryz.func89, Tryz.ntmps89
  go_wp2_with fail
  refine H.out.1.mono ?_
  rintro e w1 ⟨b, rfl, hb, hb1⟩
  have HB := Lib.hid (And.intro hb hb1); clear hb hb1
  go_wp2_with fail
  go_returns
  exact ⟨_, rfl, fun h => HB.out.1 (by simpa using h), H.out.2.trans (HB.out.2.mono (by simp))⟩
set_option maxRecDepth 100000 in
theorem right2_any (w : World) (L p M N q B hc : Nat) (HA : Option Addr) (pg : Pg) (s : Stt) (t : Th) (h : LkA w L p M pg s) (hq : Blk w q 100 #[.pointer (some ⟨L, 0, none⟩)]) (hm : MapN w 3 M N) (hA : At w B HA t.frames) (hB : B ≤ w.heap.size) (hN : N + t.frames.length ≤ 1000000) (hcd : CdOk pg) (hcl : s.cells.length ≤ 300) (hv1 : I64 t.val.1) (hv2 : I64 t.val.2) (hth : s.threads.length ≤ 5) :
    Calls Tryz.prog 91 #[.agg #[.slice HA t.frames.length hc, .int .i64 t.state, .int .i64 t.on, .int .i64 t.val.1, .int .i64 t.val.2], .pointer (some ⟨q, 0, none⟩)] w fun e w' => ∃ b : Bool, e = .returned (.bool b) ∧ (b = false → ThL pg s t) ∧ Mapt M w w' ∧ MapN w' 3 M (N + t.frames.length) := by
  have hqlt := hq.lt
  have q0 := hq.cell 0 (v := .pointer (some ⟨L, 0, none⟩)) rfl
  have hb0 : Below w.heap.size w (w.alloc (.cells #[.slice HA t.frames.length hc, .int .i64 t.state, .int .i64 t.on, .int .i64 t.val.1, .int .i64 t.val.2] 98)) := (Below.refl _ _).alloc (Nat.le_refl _) _
  have hh := thread_any _ L p M N B hc HA pg s t (h.fresh hb0) (hm.kept hb0) (hA.below (hb0.mono hB)) (by simp; omega) hN hcd hcl hv1 hv2 hth
  have hmt := (Mapt.refl hm.isMap).fresh hb0
  have H := Lib.hid (And.intro hh hmt); clear hh hmt hb0 h hq hm hA hcd hv1 hv2
  go_enter Tryz.func91, Tryz.ntmps91
  go_wp2_with fail
  refine H.out.1.mono ?_
  rintro e w1 ⟨b, rfl, hb, hm1, hn1⟩
  have HB := Lib.hid (And.intro hb (And.intro hm1 hn1)); clear hb hm1 hn1
  go_wp2_with fail
  go_returns
  exact ⟨_, rfl, fun h => HB.out.1 (by simpa using h), H.out.2.trans HB.out.2.1, HB.out.2.2⟩
end Top
end Go.Proofs.YtdlcooplllimeaaGreatDoor

/- state: right. -/
namespace Go.Proofs.YtdlcooplllimeaaGreatDoor
open Go.RowKit

attribute [local go_sem ↓] Go.wp_at_zero Go.wp_at_succ

namespace Top
/-- the state's texts lie in a slice whose size is in order -/
def TxCap (w : World) (p : Nat) : Prop := ∀ (A : Option Addr) (n c : Nat), w.cell? ⟨p, 2, none⟩ = some (.slice A n c) → n ≤ c ∧ c ≤ maxLen
def RgL (pg : Pg) (s : Stt) : Prop := (∀ c ∈ s.cells, HpL pg s c) ∧ ∀ t ∈ s.threads, ThL pg s t
def RgPost (pg : Pg) (s : Stt) (M : Nat) (w : World) (e : Ending) (w' : World) : Prop := ∃ b : Bool, e = .returned (.bool b) ∧ (b = true → RgL pg s) ∧ Mapt M w w'
theorem tx_slice {B n : Nat} {A : Option Addr} {l : List ByteArray} {w : World} (h : At w B A l) : At w B A (l.take n) := by
  intro k x hx
  rw [List.getElem?_take] at hx
  split at hx
  · exact h k x hx
  · cases hx
set_option maxHeartbeats 3200000 in
set_option maxRecDepth 100000 in
theorem rightS_any (w : World) (L p M N : Nat) (pg : Pg) (s : Stt) (h : LkA w L p M pg s) (hm : MapN w 3 M N) (hcap : TxCap w p) (hcl : ClOk s) (hcd : CdOk pg) (hth : s.threads.length ≤ 5) (hfr : ∀ t ∈ s.threads, t.frames.length ≤ 30) (hN : N ≤ 1000) :
    Calls Tryz.prog 35 #[.pointer (some ⟨L, 0, none⟩)] w (RgPost pg s M w) := by
  obtain ⟨P, hP⟩ : ∃ P, RgPost pg s M w = P := ⟨_, rfl⟩
  have HP := Lib.hid hP; rw [hP]; clear hP
  have hLlt := h.lt
  have hplt := h.st.lt
  have hfin : ∀ (w' : World), Mapt M w w' → P (.returned (.bool false)) w' := by
    intro w' hb
    rw [← HP.out]
    exact ⟨false, rfl, fun h => (by cases h), hb⟩
  have HN := Lib.hid hfin; clear hfin
  have H := Lib.hid (And.intro h (And.intro hm (And.intro hcap (And.intro hcl (And.intro hcd hfr))))); clear h hm hcap hcl hcd hfr
  go_enter Tryz.func35, Tryz.ntmps35
  go_upto_region 1 with fail
  refine wp_world (fun W => Blk W w.heap.size 100 #[.pointer (some ⟨L, 0, none⟩)] ∧ Below w.heap.size w W ∧ w.heap.size + 1 ≤ W.heap.size) ⟨Blk.new _ _ _, (Below.refl _ _).alloc (Nat.le_refl _) _, by simp⟩ ?_
  rintro W ⟨hT, hbW, hsW⟩
  have hLW := H.out.1.fresh hbW
  have hLW2 := hLW
  obtain ⟨GA, C0, XT, XA, YA, gc, cc0, xt, xc, yc, X, Y, k1, k2, -, kT, -⟩ := hLW2
  obtain ⟨CA, SA, TA, HA, EA, DA, cc, sc, tc, hc, ec, dc, s1, sC, -, sT, sH, -, -⟩ := k2
  have hcp := H.out.2.2.1 TA s.texts.length tc ((hbW.cell (p := ⟨p, 2, none⟩) hplt).symm.trans (s1.cell 2 rfl))
  obtain ⟨hcp1, hcp2⟩ := hcp
  have hcs := H.out.2.2.2.1.1.2.1
  have heq := fun Z (hZ : Below W.heap.size W Z) (hle : pg.texts.length ≤ s.texts.length) => eqS_any TA XT tc xt W.heap.size pg.texts.length pg.texts.length (s.texts.take pg.texts.length) pg.texts Z (by simp; omega) rfl (tx_slice (sT.below hZ)) (kT.below hZ) (by have := hcs; omega)
  have g0 := hT.cell 0 (v := .pointer (some ⟨L, 0, none⟩)) rfl
  have g2 := k1.cell 2 (v := .slice XT pg.texts.length xt) rfl
  have HW0 := Lib.hid (And.intro hT (And.intro hbW (And.intro k1 (And.intro s1 (And.intro hLW (And.intro sC sH)))))); clear hT hbW k1 s1 hLW sC sH sT kT
  go_cut [3] from 3 to 12 (fun v3 W2 => v3 = .int .i64 (pg.texts.length : Int) ∧ W2 = W)
  case first =>
    go_wp2_with fail
    go_meet
    exact ⟨rfl, rfl⟩
  case rest =>
  obtain ⟨rfl, hwc⟩ := hcut
  have hwc2 := hwc.symm
  subst hwc2
  clear g0 g2
  go_upto_region 2 with fail
  go_cut [72] from 12 to 72 (fun v72 W2 => ∃ b : Bool, v72 = .bool b ∧ Below W.heap.size W W2)
  case first =>
    have BX : Below W.heap.size W W.drew := (Below.refl _ _).drew
    by_cases hlt : s.texts.length < pg.texts.length
    · have dl : decide (s.texts.length < pg.texts.length) = true := by simpa using hlt
      clear hlt heq
      have HW := Lib.hid (And.intro HW0.out.1 (And.intro HW0.out.2.1 (And.intro HW0.out.2.2.1 (And.intro HW0.out.2.2.2.1 True.intro)))); clear HW0
      refine wp_region_held_drew (S := (fun w' => w'.cell? ⟨w.heap.size, 0, none⟩ = some (.pointer (some ⟨L, 0, none⟩)) ∧ w'.cell? ⟨L, 2, none⟩ = some (.slice XT pg.texts.length xt) ∧ w'.cell? ⟨L, 3, none⟩ = some (.pointer (some ⟨p, 0, none⟩)) ∧ w'.cell? ⟨p, 2, none⟩ = some (.slice TA s.texts.length tc) ∧ w'.cell? ⟨p, 3, none⟩ = some (.slice HA s.threads.length hc) ∧ w'.cell? ⟨p, 6, none⟩ = some (.int .i64 s.asked) ∧ w'.cell? ⟨p, 7, none⟩ = some (.int .i64 s.steps))) (by kernel_rfl) ?_ (fun hHeld0 => ?_)
      · first | trivial | ((try dsimp only); (exact ⟨(HW.out.1.fresh BX).cell 0 rfl, (HW.out.2.2.1.fresh BX).cell 2 rfl, (HW.out.2.2.1.fresh BX).cell 3 rfl, (HW.out.2.2.2.1.fresh BX).cell 2 rfl, (HW.out.2.2.2.1.fresh BX).cell 3 rfl, (HW.out.2.2.2.1.fresh BX).cell 6 rfl, (HW.out.2.2.2.1.fresh BX).cell 7 rfl⟩))
      refine htk 0 rfl ?_
      try go_frame
      refine htk 1 rfl ?_
      try go_frame
      refine htk 2 rfl ?_
      try go_frame
      refine htk 3 rfl ?_
      try go_frame
      refine htk 4 rfl ?_
      try go_frame
      refine htk 5 rfl ?_
      try go_frame
      refine htk 6 rfl ?_
      try go_frame
      refine htk 7 rfl ?_
      try go_frame
      refine htk 8 rfl ?_
      try go_frame
      refine htk 9 rfl ?_
      try go_frame
      refine htk 10 rfl ?_
      try go_frame
      refine hsk 11 rfl ?_
      try go_frame
      refine hsk 12 rfl ?_
      try go_frame
      refine hsk 13 rfl ?_
      try go_frame
      refine hsk 14 rfl ?_
      try go_frame
      refine hsk 15 rfl ?_
      try go_frame
      refine hsk 16 rfl ?_
      try go_frame
      refine hsk 17 rfl ?_
      try go_frame
      refine hsk 18 rfl ?_
      try go_frame
      refine hsk 19 rfl ?_
      try go_frame
      refine hsk 20 rfl ?_
      try go_frame
      refine hsk 21 rfl ?_
      try go_frame
      refine hsk 22 rfl ?_
      try go_frame
      refine hsk 23 rfl ?_
      try go_frame
      refine hsk 24 rfl ?_
      try go_frame
      refine hsk 25 rfl ?_
      try go_frame
      refine hsk 26 rfl ?_
      try go_frame
      refine htk 27 rfl ?_
      try go_frame
      refine htk 28 rfl ?_
      try go_frame
      refine hsk 29 rfl ?_
      try go_frame
      refine hsk 30 rfl ?_
      try go_frame
      refine hsk 31 rfl ?_
      try go_frame
      refine hsk 32 rfl ?_
      try go_frame
      refine hsk 33 rfl ?_
      try go_frame
      refine hsk 34 rfl ?_
      try go_frame
      refine hsk 35 rfl ?_
      try go_frame
      refine hsk 36 rfl ?_
      try go_frame
      refine hsk 37 rfl ?_
      try go_frame
      refine htk 38 rfl ?_
      try go_frame
      refine htk 39 rfl ?_
      try go_frame
      refine hsk 40 rfl ?_
      try go_frame
      refine hsk 41 rfl ?_
      try go_frame
      refine hsk 42 rfl ?_
      try go_frame
      refine hsk 43 rfl ?_
      try go_frame
      refine hsk 44 rfl ?_
      try go_frame
      refine hsk 45 rfl ?_
      try go_frame
      refine hsk 46 rfl ?_
      try go_frame
      refine hsk 47 rfl ?_
      try go_frame
      refine hsk 48 rfl ?_
      try go_frame
      refine htk 49 rfl ?_
      try go_frame
      refine htk 50 rfl ?_
      try go_frame
      refine hsk 51 rfl ?_
      try go_frame
      refine hsk 52 rfl ?_
      try go_frame
      refine hsk 53 rfl ?_
      try go_frame
      refine hsk 54 rfl ?_
      try go_frame
      refine hsk 55 rfl ?_
      try go_frame
      refine hsk 56 rfl ?_
      try go_frame
      refine hsk 57 rfl ?_
      try go_frame
      refine hsk 58 rfl ?_
      try go_frame
      refine hsk 59 rfl ?_
      try go_frame
      refine htk 60 rfl ?_
      try go_frame
      refine wpAnyH_done (by kernel_rfl) ?_ _
      go_wp2_with fail
      go_meet
      exact ⟨_, rfl, BX⟩
    have dl : decide (s.texts.length < pg.texts.length) = false := by simpa using hlt
    have hle : pg.texts.length ≤ s.texts.length := by omega
    clear hlt
    have hn2 : pg.texts.length ≤ tc := by omega
    have HW := Lib.hid (And.intro HW0.out.1 (And.intro HW0.out.2.1 (And.intro HW0.out.2.2.1 (And.intro HW0.out.2.2.2.1 (And.intro (fun Z hZ => heq Z hZ hle) True.intro))))); clear HW0 heq hle
    by_cases qY : 0 ≤ s.steps ∧ s.steps ≤ 1000000000
    · by_cases aY : 0 ≤ s.asked ∧ s.asked ≤ 1000000000
      · have QQ := Lib.hid (And.intro qY aY); clear qY aY
        refine wp_region_held_drew (S := (fun w' => w'.cell? ⟨w.heap.size, 0, none⟩ = some (.pointer (some ⟨L, 0, none⟩)) ∧ w'.cell? ⟨L, 2, none⟩ = some (.slice XT pg.texts.length xt) ∧ w'.cell? ⟨L, 3, none⟩ = some (.pointer (some ⟨p, 0, none⟩)) ∧ w'.cell? ⟨p, 2, none⟩ = some (.slice TA s.texts.length tc) ∧ w'.cell? ⟨p, 3, none⟩ = some (.slice HA s.threads.length hc) ∧ w'.cell? ⟨p, 6, none⟩ = some (.int .i64 s.asked) ∧ w'.cell? ⟨p, 7, none⟩ = some (.int .i64 s.steps))) (by kernel_rfl) ?_ (fun hHeld0 => ?_)
        · first | trivial | ((try dsimp only); (exact ⟨(HW.out.1.fresh BX).cell 0 rfl, (HW.out.2.2.1.fresh BX).cell 2 rfl, (HW.out.2.2.1.fresh BX).cell 3 rfl, (HW.out.2.2.2.1.fresh BX).cell 2 rfl, (HW.out.2.2.2.1.fresh BX).cell 3 rfl, (HW.out.2.2.2.1.fresh BX).cell 6 rfl, (HW.out.2.2.2.1.fresh BX).cell 7 rfl⟩))
        refine htk 0 rfl ?_
        try go_frame
        refine htk 1 rfl ?_
        try go_frame
        refine htk 2 rfl ?_
        try go_frame
        refine htk 3 rfl ?_
        try go_frame
        refine htk 4 rfl ?_
        try go_frame
        refine htk 5 rfl ?_
        try go_frame
        refine htk 6 rfl ?_
        try go_frame
        refine htk 7 rfl ?_
        try go_frame
        refine htk 8 rfl ?_
        try go_frame
        refine htk 9 rfl ?_
        try go_frame
        refine htk 10 rfl ?_
        try go_frame
        refine htk 11 rfl ?_
        try go_frame
        refine htk 12 rfl ?_
        try go_frame
        refine htk 13 rfl ?_
        try go_frame
        refine htk 14 rfl ?_
        try go_frame
        refine htk 15 rfl ?_
        try go_frame
        refine htk 16 rfl ?_
        try go_frame
        refine htk 17 rfl ?_
        try go_frame
        refine htk 18 rfl ?_
        try go_frame
        refine htk 19 rfl ?_
        try go_frame
        refine htk 20 rfl ?_
        try go_frame
        refine htk 21 rfl ?_
        try go_frame
        refine htk 22 rfl ?_
        try go_frame
        refine htk 23 rfl ?_
        try go_frame
        refine htk 24 rfl ?_
        try go_frame
        refine held_call 25 (by kernel_rfl) rfl (fun K hK => ?_)
        go_simp
        refine (HW.out.2.2.2.2.1 _ BX).mono ?_; rintro e wA ⟨bS, rfl, -, hbA⟩; have BY := BX.trans (hbA.mono BX.size); clear BX; have BX := BY; clear BY
        cases bS with
        | false =>
          try (go_wp2_with fail)
          refine hK.out _ _ ?_ (fun hHeld1 => ?_)
          · first | trivial | ((try dsimp only); (exact ⟨(HW.out.1.fresh BX).cell 0 rfl, (HW.out.2.2.1.fresh BX).cell 2 rfl, (HW.out.2.2.1.fresh BX).cell 3 rfl, (HW.out.2.2.2.1.fresh BX).cell 2 rfl, (HW.out.2.2.2.1.fresh BX).cell 3 rfl, (HW.out.2.2.2.1.fresh BX).cell 6 rfl, (HW.out.2.2.2.1.fresh BX).cell 7 rfl⟩))
          clear hK K hHeld0
          try go_frame
          refine htk 26 rfl ?_
          try go_frame
          refine htk 27 rfl ?_
          try go_frame
          refine htk 28 rfl ?_
          try go_frame
          refine hsk 29 rfl ?_
          try go_frame
          refine hsk 30 rfl ?_
          try go_frame
          refine hsk 31 rfl ?_
          try go_frame
          refine hsk 32 rfl ?_
          try go_frame
          refine hsk 33 rfl ?_
          try go_frame
          refine hsk 34 rfl ?_
          try go_frame
          refine hsk 35 rfl ?_
          try go_frame
          refine hsk 36 rfl ?_
          try go_frame
          refine hsk 37 rfl ?_
          try go_frame
          refine htk 38 rfl ?_
          try go_frame
          refine htk 39 rfl ?_
          try go_frame
          refine hsk 40 rfl ?_
          try go_frame
          refine hsk 41 rfl ?_
          try go_frame
          refine hsk 42 rfl ?_
          try go_frame
          refine hsk 43 rfl ?_
          try go_frame
          refine hsk 44 rfl ?_
          try go_frame
          refine hsk 45 rfl ?_
          try go_frame
          refine hsk 46 rfl ?_
          try go_frame
          refine hsk 47 rfl ?_
          try go_frame
          refine hsk 48 rfl ?_
          try go_frame
          refine htk 49 rfl ?_
          try go_frame
          refine htk 50 rfl ?_
          try go_frame
          refine hsk 51 rfl ?_
          try go_frame
          refine hsk 52 rfl ?_
          try go_frame
          refine hsk 53 rfl ?_
          try go_frame
          refine hsk 54 rfl ?_
          try go_frame
          refine hsk 55 rfl ?_
          try go_frame
          refine hsk 56 rfl ?_
          try go_frame
          refine hsk 57 rfl ?_
          try go_frame
          refine hsk 58 rfl ?_
          try go_frame
          refine hsk 59 rfl ?_
          try go_frame
          refine htk 60 rfl ?_
          try go_frame
          refine wpAnyH_done (by kernel_rfl) ?_ _
          go_wp2_with fail
          go_meet
          exact ⟨_, rfl, BX⟩
        | true =>
          try (go_wp2_with fail)
          refine hK.out _ _ ?_ (fun hHeld1 => ?_)
          · first | trivial | ((try dsimp only); (exact ⟨(HW.out.1.fresh BX).cell 0 rfl, (HW.out.2.2.1.fresh BX).cell 2 rfl, (HW.out.2.2.1.fresh BX).cell 3 rfl, (HW.out.2.2.2.1.fresh BX).cell 2 rfl, (HW.out.2.2.2.1.fresh BX).cell 3 rfl, (HW.out.2.2.2.1.fresh BX).cell 6 rfl, (HW.out.2.2.2.1.fresh BX).cell 7 rfl⟩))
          clear hK K hHeld0
          try go_frame
          refine htk 26 rfl ?_
          try go_frame
          refine htk 27 rfl ?_
          try go_frame
          refine htk 28 rfl ?_
          try go_frame
          refine htk 29 rfl ?_
          try go_frame
          refine htk 30 rfl ?_
          try go_frame
          refine htk 31 rfl ?_
          try go_frame
          refine htk 32 rfl ?_
          try go_frame
          refine htk 33 rfl ?_
          try go_frame
          refine htk 34 rfl ?_
          try go_frame
          refine htk 35 rfl ?_
          try go_frame
          refine held_call 36 (by kernel_rfl) rfl (fun K hK => ?_)
          go_simp
          refine (swithin_true s.steps 0 1000000000 QQ.out.1.1 QQ.out.1.2 _).mono ?_; rintro e wB ⟨rfl, rfl⟩
          try (go_wp2_with fail)
          refine hK.out _ _ ?_ (fun hHeld2 => ?_)
          · first | trivial | ((try dsimp only); (exact ⟨(HW.out.1.fresh BX).cell 0 rfl, (HW.out.2.2.1.fresh BX).cell 2 rfl, (HW.out.2.2.1.fresh BX).cell 3 rfl, (HW.out.2.2.2.1.fresh BX).cell 2 rfl, (HW.out.2.2.2.1.fresh BX).cell 3 rfl, (HW.out.2.2.2.1.fresh BX).cell 6 rfl, (HW.out.2.2.2.1.fresh BX).cell 7 rfl⟩))
          clear hK K hHeld1
          try go_frame
          refine htk 37 rfl ?_
          try go_frame
          refine htk 38 rfl ?_
          try go_frame
          refine htk 39 rfl ?_
          try go_frame
          refine htk 40 rfl ?_
          try go_frame
          refine htk 41 rfl ?_
          try go_frame
          refine htk 42 rfl ?_
          try go_frame
          refine htk 43 rfl ?_
          try go_frame
          refine htk 44 rfl ?_
          try go_frame
          refine htk 45 rfl ?_
          try go_frame
          refine htk 46 rfl ?_
          try go_frame
          refine held_call 47 (by kernel_rfl) rfl (fun K hK => ?_)
          go_simp
          refine (swithin_true s.asked 0 1000000000 QQ.out.2.1 QQ.out.2.2 _).mono ?_; rintro e wB ⟨rfl, rfl⟩
          try (go_wp2_with fail)
          refine hK.out _ _ ?_ (fun hHeld3 => ?_)
          · first | trivial | ((try dsimp only); (exact ⟨(HW.out.1.fresh BX).cell 0 rfl, (HW.out.2.2.1.fresh BX).cell 2 rfl, (HW.out.2.2.1.fresh BX).cell 3 rfl, (HW.out.2.2.2.1.fresh BX).cell 2 rfl, (HW.out.2.2.2.1.fresh BX).cell 3 rfl, (HW.out.2.2.2.1.fresh BX).cell 6 rfl, (HW.out.2.2.2.1.fresh BX).cell 7 rfl⟩))
          clear hK K hHeld2
          try go_frame
          refine htk 48 rfl ?_
          try go_frame
          refine htk 49 rfl ?_
          try go_frame
          refine htk 50 rfl ?_
          try go_frame
          refine htk 51 rfl ?_
          try go_frame
          refine htk 52 rfl ?_
          try go_frame
          refine htk 53 rfl ?_
          try go_frame
          refine htk 54 rfl ?_
          try go_frame
          refine htk 55 rfl ?_
          try go_frame
          refine htk 56 rfl ?_
          try go_frame
          refine htk 57 rfl ?_
          try go_frame
          refine htk 58 rfl ?_
          try go_frame
          refine htk 59 rfl ?_
          try go_frame
          refine htk 60 rfl ?_
          try go_frame
          refine wpAnyH_done (by kernel_rfl) ?_ _
          go_wp2_with fail
          go_meet
          exact ⟨_, rfl, BX⟩
      have QQ := Lib.hid (And.intro qY aY); clear qY aY
      refine wp_region_held_drew (S := (fun w' => w'.cell? ⟨w.heap.size, 0, none⟩ = some (.pointer (some ⟨L, 0, none⟩)) ∧ w'.cell? ⟨L, 2, none⟩ = some (.slice XT pg.texts.length xt) ∧ w'.cell? ⟨L, 3, none⟩ = some (.pointer (some ⟨p, 0, none⟩)) ∧ w'.cell? ⟨p, 2, none⟩ = some (.slice TA s.texts.length tc) ∧ w'.cell? ⟨p, 3, none⟩ = some (.slice HA s.threads.length hc) ∧ w'.cell? ⟨p, 6, none⟩ = some (.int .i64 s.asked) ∧ w'.cell? ⟨p, 7, none⟩ = some (.int .i64 s.steps))) (by kernel_rfl) ?_ (fun hHeld0 => ?_)
      · first | trivial | ((try dsimp only); (exact ⟨(HW.out.1.fresh BX).cell 0 rfl, (HW.out.2.2.1.fresh BX).cell 2 rfl, (HW.out.2.2.1.fresh BX).cell 3 rfl, (HW.out.2.2.2.1.fresh BX).cell 2 rfl, (HW.out.2.2.2.1.fresh BX).cell 3 rfl, (HW.out.2.2.2.1.fresh BX).cell 6 rfl, (HW.out.2.2.2.1.fresh BX).cell 7 rfl⟩))
      refine htk 0 rfl ?_
      try go_frame
      refine htk 1 rfl ?_
      try go_frame
      refine htk 2 rfl ?_
      try go_frame
      refine htk 3 rfl ?_
      try go_frame
      refine htk 4 rfl ?_
      try go_frame
      refine htk 5 rfl ?_
      try go_frame
      refine htk 6 rfl ?_
      try go_frame
      refine htk 7 rfl ?_
      try go_frame
      refine htk 8 rfl ?_
      try go_frame
      refine htk 9 rfl ?_
      try go_frame
      refine htk 10 rfl ?_
      try go_frame
      refine htk 11 rfl ?_
      try go_frame
      refine htk 12 rfl ?_
      try go_frame
      refine htk 13 rfl ?_
      try go_frame
      refine htk 14 rfl ?_
      try go_frame
      refine htk 15 rfl ?_
      try go_frame
      refine htk 16 rfl ?_
      try go_frame
      refine htk 17 rfl ?_
      try go_frame
      refine htk 18 rfl ?_
      try go_frame
      refine htk 19 rfl ?_
      try go_frame
      refine htk 20 rfl ?_
      try go_frame
      refine htk 21 rfl ?_
      try go_frame
      refine htk 22 rfl ?_
      try go_frame
      refine htk 23 rfl ?_
      try go_frame
      refine htk 24 rfl ?_
      try go_frame
      refine held_call 25 (by kernel_rfl) rfl (fun K hK => ?_)
      go_simp
      refine (HW.out.2.2.2.2.1 _ BX).mono ?_; rintro e wA ⟨bS, rfl, -, hbA⟩; have BY := BX.trans (hbA.mono BX.size); clear BX; have BX := BY; clear BY
      cases bS with
      | false =>
        try (go_wp2_with fail)
        refine hK.out _ _ ?_ (fun hHeld1 => ?_)
        · first | trivial | ((try dsimp only); (exact ⟨(HW.out.1.fresh BX).cell 0 rfl, (HW.out.2.2.1.fresh BX).cell 2 rfl, (HW.out.2.2.1.fresh BX).cell 3 rfl, (HW.out.2.2.2.1.fresh BX).cell 2 rfl, (HW.out.2.2.2.1.fresh BX).cell 3 rfl, (HW.out.2.2.2.1.fresh BX).cell 6 rfl, (HW.out.2.2.2.1.fresh BX).cell 7 rfl⟩))
        clear hK K hHeld0
        try go_frame
        refine htk 26 rfl ?_
        try go_frame
        refine htk 27 rfl ?_
        try go_frame
        refine htk 28 rfl ?_
        try go_frame
        refine hsk 29 rfl ?_
        try go_frame
        refine hsk 30 rfl ?_
        try go_frame
        refine hsk 31 rfl ?_
        try go_frame
        refine hsk 32 rfl ?_
        try go_frame
        refine hsk 33 rfl ?_
        try go_frame
        refine hsk 34 rfl ?_
        try go_frame
        refine hsk 35 rfl ?_
        try go_frame
        refine hsk 36 rfl ?_
        try go_frame
        refine hsk 37 rfl ?_
        try go_frame
        refine htk 38 rfl ?_
        try go_frame
        refine htk 39 rfl ?_
        try go_frame
        refine hsk 40 rfl ?_
        try go_frame
        refine hsk 41 rfl ?_
        try go_frame
        refine hsk 42 rfl ?_
        try go_frame
        refine hsk 43 rfl ?_
        try go_frame
        refine hsk 44 rfl ?_
        try go_frame
        refine hsk 45 rfl ?_
        try go_frame
        refine hsk 46 rfl ?_
        try go_frame
        refine hsk 47 rfl ?_
        try go_frame
        refine hsk 48 rfl ?_
        try go_frame
        refine htk 49 rfl ?_
        try go_frame
        refine htk 50 rfl ?_
        try go_frame
        refine hsk 51 rfl ?_
        try go_frame
        refine hsk 52 rfl ?_
        try go_frame
        refine hsk 53 rfl ?_
        try go_frame
        refine hsk 54 rfl ?_
        try go_frame
        refine hsk 55 rfl ?_
        try go_frame
        refine hsk 56 rfl ?_
        try go_frame
        refine hsk 57 rfl ?_
        try go_frame
        refine hsk 58 rfl ?_
        try go_frame
        refine hsk 59 rfl ?_
        try go_frame
        refine htk 60 rfl ?_
        try go_frame
        refine wpAnyH_done (by kernel_rfl) ?_ _
        go_wp2_with fail
        go_meet
        exact ⟨_, rfl, BX⟩
      | true =>
        try (go_wp2_with fail)
        refine hK.out _ _ ?_ (fun hHeld1 => ?_)
        · first | trivial | ((try dsimp only); (exact ⟨(HW.out.1.fresh BX).cell 0 rfl, (HW.out.2.2.1.fresh BX).cell 2 rfl, (HW.out.2.2.1.fresh BX).cell 3 rfl, (HW.out.2.2.2.1.fresh BX).cell 2 rfl, (HW.out.2.2.2.1.fresh BX).cell 3 rfl, (HW.out.2.2.2.1.fresh BX).cell 6 rfl, (HW.out.2.2.2.1.fresh BX).cell 7 rfl⟩))
        clear hK K hHeld0
        try go_frame
        refine htk 26 rfl ?_
        try go_frame
        refine htk 27 rfl ?_
        try go_frame
        refine htk 28 rfl ?_
        try go_frame
        refine htk 29 rfl ?_
        try go_frame
        refine htk 30 rfl ?_
        try go_frame
        refine htk 31 rfl ?_
        try go_frame
        refine htk 32 rfl ?_
        try go_frame
        refine htk 33 rfl ?_
        try go_frame
        refine htk 34 rfl ?_
        try go_frame
        refine htk 35 rfl ?_
        try go_frame
        refine held_call 36 (by kernel_rfl) rfl (fun K hK => ?_)
        go_simp
        refine (swithin_true s.steps 0 1000000000 QQ.out.1.1 QQ.out.1.2 _).mono ?_; rintro e wB ⟨rfl, rfl⟩
        try (go_wp2_with fail)
        refine hK.out _ _ ?_ (fun hHeld2 => ?_)
        · first | trivial | ((try dsimp only); (exact ⟨(HW.out.1.fresh BX).cell 0 rfl, (HW.out.2.2.1.fresh BX).cell 2 rfl, (HW.out.2.2.1.fresh BX).cell 3 rfl, (HW.out.2.2.2.1.fresh BX).cell 2 rfl, (HW.out.2.2.2.1.fresh BX).cell 3 rfl, (HW.out.2.2.2.1.fresh BX).cell 6 rfl, (HW.out.2.2.2.1.fresh BX).cell 7 rfl⟩))
        clear hK K hHeld1
        try go_frame
        refine htk 37 rfl ?_
        try go_frame
        refine htk 38 rfl ?_
        try go_frame
        refine htk 39 rfl ?_
        try go_frame
        refine htk 40 rfl ?_
        try go_frame
        refine htk 41 rfl ?_
        try go_frame
        refine htk 42 rfl ?_
        try go_frame
        refine htk 43 rfl ?_
        try go_frame
        refine htk 44 rfl ?_
        try go_frame
        refine htk 45 rfl ?_
        try go_frame
        refine htk 46 rfl ?_
        try go_frame
        refine held_call 47 (by kernel_rfl) rfl (fun K hK => ?_)
        go_simp
        refine (swithin_false s.asked 0 1000000000 QQ.out.2 _).mono ?_; rintro e wB ⟨rfl, rfl⟩
        try (go_wp2_with fail)
        refine hK.out _ _ ?_ (fun hHeld3 => ?_)
        · first | trivial | ((try dsimp only); (exact ⟨(HW.out.1.fresh BX).cell 0 rfl, (HW.out.2.2.1.fresh BX).cell 2 rfl, (HW.out.2.2.1.fresh BX).cell 3 rfl, (HW.out.2.2.2.1.fresh BX).cell 2 rfl, (HW.out.2.2.2.1.fresh BX).cell 3 rfl, (HW.out.2.2.2.1.fresh BX).cell 6 rfl, (HW.out.2.2.2.1.fresh BX).cell 7 rfl⟩))
        clear hK K hHeld2
        try go_frame
        refine htk 48 rfl ?_
        try go_frame
        refine htk 49 rfl ?_
        try go_frame
        refine htk 50 rfl ?_
        try go_frame
        refine hsk 51 rfl ?_
        try go_frame
        refine hsk 52 rfl ?_
        try go_frame
        refine hsk 53 rfl ?_
        try go_frame
        refine hsk 54 rfl ?_
        try go_frame
        refine hsk 55 rfl ?_
        try go_frame
        refine hsk 56 rfl ?_
        try go_frame
        refine hsk 57 rfl ?_
        try go_frame
        refine hsk 58 rfl ?_
        try go_frame
        refine hsk 59 rfl ?_
        try go_frame
        refine htk 60 rfl ?_
        try go_frame
        refine wpAnyH_done (by kernel_rfl) ?_ _
        go_wp2_with fail
        go_meet
        exact ⟨_, rfl, BX⟩
    have QQ := Lib.hid qY; clear qY
    refine wp_region_held_drew (S := (fun w' => w'.cell? ⟨w.heap.size, 0, none⟩ = some (.pointer (some ⟨L, 0, none⟩)) ∧ w'.cell? ⟨L, 2, none⟩ = some (.slice XT pg.texts.length xt) ∧ w'.cell? ⟨L, 3, none⟩ = some (.pointer (some ⟨p, 0, none⟩)) ∧ w'.cell? ⟨p, 2, none⟩ = some (.slice TA s.texts.length tc) ∧ w'.cell? ⟨p, 3, none⟩ = some (.slice HA s.threads.length hc) ∧ w'.cell? ⟨p, 6, none⟩ = some (.int .i64 s.asked) ∧ w'.cell? ⟨p, 7, none⟩ = some (.int .i64 s.steps))) (by kernel_rfl) ?_ (fun hHeld0 => ?_)
    · first | trivial | ((try dsimp only); (exact ⟨(HW.out.1.fresh BX).cell 0 rfl, (HW.out.2.2.1.fresh BX).cell 2 rfl, (HW.out.2.2.1.fresh BX).cell 3 rfl, (HW.out.2.2.2.1.fresh BX).cell 2 rfl, (HW.out.2.2.2.1.fresh BX).cell 3 rfl, (HW.out.2.2.2.1.fresh BX).cell 6 rfl, (HW.out.2.2.2.1.fresh BX).cell 7 rfl⟩))
    refine htk 0 rfl ?_
    try go_frame
    refine htk 1 rfl ?_
    try go_frame
    refine htk 2 rfl ?_
    try go_frame
    refine htk 3 rfl ?_
    try go_frame
    refine htk 4 rfl ?_
    try go_frame
    refine htk 5 rfl ?_
    try go_frame
    refine htk 6 rfl ?_
    try go_frame
    refine htk 7 rfl ?_
    try go_frame
    refine htk 8 rfl ?_
    try go_frame
    refine htk 9 rfl ?_
    try go_frame
    refine htk 10 rfl ?_
    try go_frame
    refine htk 11 rfl ?_
    try go_frame
    refine htk 12 rfl ?_
    try go_frame
    refine htk 13 rfl ?_
    try go_frame
    refine htk 14 rfl ?_
    try go_frame
    refine htk 15 rfl ?_
    try go_frame
    refine htk 16 rfl ?_
    try go_frame
    refine htk 17 rfl ?_
    try go_frame
    refine htk 18 rfl ?_
    try go_frame
    refine htk 19 rfl ?_
    try go_frame
    refine htk 20 rfl ?_
    try go_frame
    refine htk 21 rfl ?_
    try go_frame
    refine htk 22 rfl ?_
    try go_frame
    refine htk 23 rfl ?_
    try go_frame
    refine htk 24 rfl ?_
    try go_frame
    refine held_call 25 (by kernel_rfl) rfl (fun K hK => ?_)
    go_simp
    refine (HW.out.2.2.2.2.1 _ BX).mono ?_; rintro e wA ⟨bS, rfl, -, hbA⟩; have BY := BX.trans (hbA.mono BX.size); clear BX; have BX := BY; clear BY
    cases bS with
    | false =>
      try (go_wp2_with fail)
      refine hK.out _ _ ?_ (fun hHeld1 => ?_)
      · first | trivial | ((try dsimp only); (exact ⟨(HW.out.1.fresh BX).cell 0 rfl, (HW.out.2.2.1.fresh BX).cell 2 rfl, (HW.out.2.2.1.fresh BX).cell 3 rfl, (HW.out.2.2.2.1.fresh BX).cell 2 rfl, (HW.out.2.2.2.1.fresh BX).cell 3 rfl, (HW.out.2.2.2.1.fresh BX).cell 6 rfl, (HW.out.2.2.2.1.fresh BX).cell 7 rfl⟩))
      clear hK K hHeld0
      try go_frame
      refine htk 26 rfl ?_
      try go_frame
      refine htk 27 rfl ?_
      try go_frame
      refine htk 28 rfl ?_
      try go_frame
      refine hsk 29 rfl ?_
      try go_frame
      refine hsk 30 rfl ?_
      try go_frame
      refine hsk 31 rfl ?_
      try go_frame
      refine hsk 32 rfl ?_
      try go_frame
      refine hsk 33 rfl ?_
      try go_frame
      refine hsk 34 rfl ?_
      try go_frame
      refine hsk 35 rfl ?_
      try go_frame
      refine hsk 36 rfl ?_
      try go_frame
      refine hsk 37 rfl ?_
      try go_frame
      refine htk 38 rfl ?_
      try go_frame
      refine htk 39 rfl ?_
      try go_frame
      refine hsk 40 rfl ?_
      try go_frame
      refine hsk 41 rfl ?_
      try go_frame
      refine hsk 42 rfl ?_
      try go_frame
      refine hsk 43 rfl ?_
      try go_frame
      refine hsk 44 rfl ?_
      try go_frame
      refine hsk 45 rfl ?_
      try go_frame
      refine hsk 46 rfl ?_
      try go_frame
      refine hsk 47 rfl ?_
      try go_frame
      refine hsk 48 rfl ?_
      try go_frame
      refine htk 49 rfl ?_
      try go_frame
      refine htk 50 rfl ?_
      try go_frame
      refine hsk 51 rfl ?_
      try go_frame
      refine hsk 52 rfl ?_
      try go_frame
      refine hsk 53 rfl ?_
      try go_frame
      refine hsk 54 rfl ?_
      try go_frame
      refine hsk 55 rfl ?_
      try go_frame
      refine hsk 56 rfl ?_
      try go_frame
      refine hsk 57 rfl ?_
      try go_frame
      refine hsk 58 rfl ?_
      try go_frame
      refine hsk 59 rfl ?_
      try go_frame
      refine htk 60 rfl ?_
      try go_frame
      refine wpAnyH_done (by kernel_rfl) ?_ _
      go_wp2_with fail
      go_meet
      exact ⟨_, rfl, BX⟩
    | true =>
      try (go_wp2_with fail)
      refine hK.out _ _ ?_ (fun hHeld1 => ?_)
      · first | trivial | ((try dsimp only); (exact ⟨(HW.out.1.fresh BX).cell 0 rfl, (HW.out.2.2.1.fresh BX).cell 2 rfl, (HW.out.2.2.1.fresh BX).cell 3 rfl, (HW.out.2.2.2.1.fresh BX).cell 2 rfl, (HW.out.2.2.2.1.fresh BX).cell 3 rfl, (HW.out.2.2.2.1.fresh BX).cell 6 rfl, (HW.out.2.2.2.1.fresh BX).cell 7 rfl⟩))
      clear hK K hHeld0
      try go_frame
      refine htk 26 rfl ?_
      try go_frame
      refine htk 27 rfl ?_
      try go_frame
      refine htk 28 rfl ?_
      try go_frame
      refine htk 29 rfl ?_
      try go_frame
      refine htk 30 rfl ?_
      try go_frame
      refine htk 31 rfl ?_
      try go_frame
      refine htk 32 rfl ?_
      try go_frame
      refine htk 33 rfl ?_
      try go_frame
      refine htk 34 rfl ?_
      try go_frame
      refine htk 35 rfl ?_
      try go_frame
      refine held_call 36 (by kernel_rfl) rfl (fun K hK => ?_)
      go_simp
      refine (swithin_false s.steps 0 1000000000 QQ.out _).mono ?_; rintro e wB ⟨rfl, rfl⟩
      try (go_wp2_with fail)
      refine hK.out _ _ ?_ (fun hHeld2 => ?_)
      · first | trivial | ((try dsimp only); (exact ⟨(HW.out.1.fresh BX).cell 0 rfl, (HW.out.2.2.1.fresh BX).cell 2 rfl, (HW.out.2.2.1.fresh BX).cell 3 rfl, (HW.out.2.2.2.1.fresh BX).cell 2 rfl, (HW.out.2.2.2.1.fresh BX).cell 3 rfl, (HW.out.2.2.2.1.fresh BX).cell 6 rfl, (HW.out.2.2.2.1.fresh BX).cell 7 rfl⟩))
      clear hK K hHeld1
      try go_frame
      refine htk 37 rfl ?_
      try go_frame
      refine htk 38 rfl ?_
      try go_frame
      refine htk 39 rfl ?_
      try go_frame
      refine hsk 40 rfl ?_
      try go_frame
      refine hsk 41 rfl ?_
      try go_frame
      refine hsk 42 rfl ?_
      try go_frame
      refine hsk 43 rfl ?_
      try go_frame
      refine hsk 44 rfl ?_
      try go_frame
      refine hsk 45 rfl ?_
      try go_frame
      refine hsk 46 rfl ?_
      try go_frame
      refine hsk 47 rfl ?_
      try go_frame
      refine hsk 48 rfl ?_
      try go_frame
      refine htk 49 rfl ?_
      try go_frame
      refine htk 50 rfl ?_
      try go_frame
      refine hsk 51 rfl ?_
      try go_frame
      refine hsk 52 rfl ?_
      try go_frame
      refine hsk 53 rfl ?_
      try go_frame
      refine hsk 54 rfl ?_
      try go_frame
      refine hsk 55 rfl ?_
      try go_frame
      refine hsk 56 rfl ?_
      try go_frame
      refine hsk 57 rfl ?_
      try go_frame
      refine hsk 58 rfl ?_
      try go_frame
      refine hsk 59 rfl ?_
      try go_frame
      refine htk 60 rfl ?_
      try go_frame
      refine wpAnyH_done (by kernel_rfl) ?_ _
      go_wp2_with fail
      go_meet
      exact ⟨_, rfl, BX⟩
  case rest =>
  obtain ⟨b72, rfl, hbc⟩ := hcut
  have hb0 : Below w.heap.size w wc := HW0.out.2.1.trans (hbc.mono (by omega))
  cases b72 with
  | true =>
    have HE := Lib.hid ((Mapt.refl H.out.2.1.isMap).fresh hb0); clear hbc hb0
    go_wp2_with fail
    exact HN.out _ HE.out
  | false =>
  have hbcs := hbc.size
  have hT1 := HW0.out.1.fresh hbc
  have hS1 := HW0.out.2.2.2.1.fresh hbc
  have hL1 := HW0.out.2.2.2.2.1.fresh hbc
  have c0 := hT1.cell 0 (v := .pointer (some ⟨L, 0, none⟩)) rfl
  have c3 := (HW0.out.2.2.1.fresh hbc).cell 3 (v := .pointer (some ⟨p, 0, none⟩)) rfl
  have s0 := hS1.cell 0 (v := .slice CA s.cells.length cc) rfl
  have hct := ctFCell_any CA cc wc.heap.size 89 s.cells.length #[.pointer (some ⟨w.heap.size, 0, none⟩)] s.cells wc (fun c => HpL pg s c) rfl ((HW0.out.2.2.2.2.2.1.below hbc).more hbcs) (Nat.le_refl _) (by have := H.out.2.2.2.1.1.1; omega) egR1
    (fun V hV x hx VA FA vc fc a1 a2 a3 a4 _ _ => right1_any V L p M w.heap.size wc.heap.size vc fc VA FA pg s x (hL1.fresh hV) (hT1.fresh hV) a3 hV.size (H.out.2.2.2.1.2.1 x hx) H.out.2.2.2.2.1 H.out.2.2.2.1.1.1)
  have HC := Lib.hid (And.intro hct (And.intro hb0 hbc)); clear hct hb0 hbc hT1 hS1 hL1
  go_upto_region 4 with fail
  go_wp2_with fail
  refine HC.out.1.mono ?_
  rintro e w4 ⟨b, rfl, hcl4, hb4⟩
  have HC4 := Lib.hid (And.intro hcl4 hb4); clear hcl4 hb4 c0 c3 s0
  cases b with
  | true =>
    have HE := Lib.hid ((Mapt.refl H.out.2.1.isMap).fresh (HC.out.2.1.trans (HC4.out.2.mono (by omega)))); 
    go_wp2_with fail
    exact HN.out _ HE.out
  | false =>
  have hb4W : Below W.heap.size W w4 := HC.out.2.2.trans (HC4.out.2.mono hbcs)
  have hb40 : Below w.heap.size w w4 := HW0.out.2.1.trans (hb4W.mono (by omega))
  have hs4 := hb4W.size
  have hT4 := HW0.out.1.fresh hb4W
  have hS4 := HW0.out.2.2.2.1.fresh hb4W
  have hL4 := HW0.out.2.2.2.2.1.fresh hb4W
  have hK4 := HW0.out.2.2.1.fresh hb4W
  have c0 := hT4.cell 0 (v := .pointer (some ⟨L, 0, none⟩)) rfl
  have c3 := hK4.cell 3 (v := .pointer (some ⟨p, 0, none⟩)) rfl
  have s3 := hS4.cell 3 (v := .slice HA s.threads.length hc) rfl
  have hm4 := H.out.2.1.kept hb40
  have hm04 := (Mapt.refl H.out.2.1.isMap).fresh hb40
  have hct := ctTh_any HA hc w4.heap.size 91 s.threads.length #[.pointer (some ⟨w.heap.size, 0, none⟩)] s.threads w4 (fun t => ThL pg s t) (fun k V => Mapt M w4 V ∧ MapN V 3 M (N + 30 * k)) rfl ⟨Mapt.refl hm4.isMap, by simpa using hm4⟩ (fun k V hI => hI.1.at_ ((HW0.out.2.2.2.2.2.2.below hb4W).more hs4) (Nat.le_refl _)) (by omega) egR2
    (fun k V x hx hI Av cv a1 a2 a3 => by
      have hxm := List.mem_of_getElem? hx
      have hk5 := (List.getElem?_eq_some_iff.1 hx).1
      have hx30 := H.out.2.2.2.2.2 x hxm
      refine (right2_any V L p M (N + 30 * k) w.heap.size w4.heap.size cv Av pg s x (hL4.mapt hI.1) (hI.1.blk hT4) hI.2 a1 hI.1.size (by omega) H.out.2.2.2.2.1 H.out.2.2.2.1.1.1 a3.2.2.1 a3.2.2.2 hth).mono ?_
      rintro e w' ⟨b, rfl, h1, h2, h3⟩
      exact ⟨b, rfl, h1, hI.1.trans h2, h3.more (by omega)⟩)
  have HD := Lib.hid (And.intro hct (And.intro hm04 (And.intro hm4 (And.intro hT4 (And.intro hS4 (And.intro hK4 ((HW0.out.2.2.2.2.2.1.below hb4W).more hs4))))))); clear hct hm04 hm4 hT4 hS4 hL4 hK4 hb4W hb40
  go_wp2_with fail
  refine HD.out.1.mono ?_
  rintro e w5 ⟨b, rfl, hth5, k5, hk5, hI5⟩
  have hm5 := HD.out.2.1.trans hI5.1
  have HE5 := Lib.hid (And.intro hth5 (And.intro hI5 hm5)); clear hth5 hI5 hm5 c0 c3 s3
  cases b with
  | true =>
    go_wp2_with fail
    exact HN.out _ HE5.out.2.2
  | false =>
  have hT5 := HE5.out.2.1.1.blk HD.out.2.2.2.1
  have hS5 := HE5.out.2.1.1.blk HD.out.2.2.2.2.1
  have hK5 := HE5.out.2.1.1.blk HD.out.2.2.2.2.2.1
  have hC5 := (HE5.out.2.1.1.at_ HD.out.2.2.2.2.2.2 (Nat.le_refl _)).more HE5.out.2.1.1.size
  have hm5 := HE5.out.2.1.2
  have c0 := hT5.cell 0 (v := .pointer (some ⟨L, 0, none⟩)) rfl
  have c3 := hK5.cell 3 (v := .pointer (some ⟨p, 0, none⟩)) rfl
  have s0 := hS5.cell 0 (v := .slice CA s.cells.length cc) rfl
  have HF := Lib.hid (And.intro hT5 (And.intro hK5 (And.intro hC5 hm5))); clear hT5 hS5 hK5 hC5 hm5
  go_upto_region 7 with fail
  clear c0 c3 s0
  go_loopg [101] s.cells.length (fun gk iv wr => ∃ k : Nat, k ≤ s.cells.length ∧ gk = s.cells.length - k ∧ iv = .int .i64 k ∧ Below w5.heap.size w5 wr ∧ w5.heap.size ≤ wr.heap.size)
  case atStart => exact ⟨0, Nat.zero_le _, rfl, rfl, Below.refl _ _, Nat.le_refl _⟩
  case round =>
    obtain ⟨k, hk, rfl, rfl, hbr, hbrs⟩ := hrel
    have hc3 := H.out.2.2.2.1.1.1
    by_cases hlt : k < s.cells.length
    · obtain ⟨b, o, x, VA, vc, FA, fc, rfl, hb, hx, q0, q1, q2, q3, -, -, -, -, i0, i1⟩ := (HF.out.2.2.1.below hbr).ce_ (k := k) hlt
      have hk0 : (0 : Int) ≤ (k : Int) := by omega
      have hk1 : (k : Int) < (s.cells.length : Int) := by omega
      clear hx
      have HBR := Lib.hid hbr; clear hbr
      go_upto_region 9 with fail
      refine wp_world (fun V => Blk V wr.heap.size 46 #[.int .i64 x.kind, .int .i64 x.num, .slice VA x.vals.length vc, .slice FA x.frames.length fc] ∧ Below wr.heap.size wr V) ⟨Blk.new _ _ _, (Below.refl _ _).alloc (Nat.le_refl _) _⟩ ?_
      rintro V ⟨hCe, hV⟩
      have hbV : Below w5.heap.size w5 V := HBR.out.trans (hV.mono hbrs)
      have c0 := (HF.out.1.fresh hbV).cell 0 (v := .pointer (some ⟨L, 0, none⟩)) rfl
      have c6 := (HF.out.2.1.fresh hbV).cell 6 (v := .map (some M)) rfl
      have e0 := hCe.cell 0 (v := .int .i64 x.kind) rfl
      have e1 := hCe.cell 1 (v := .int .i64 x.num) rfl
      have hgl : I64 (k : Int) := by have := H.out.2.2.2.1.1.1; constructor <;> omega
      obtain ⟨cv, hlook⟩ := (HF.out.2.2.2.kept hbV).look (t := 89) lawInt Tryz.underlying89 (keyInt hgl)
      have HR := Lib.hid hbV; clear hbV hV hCe q0 q1 q2 q3 hgl
      by_cases y1 : x.kind = 5
      · have d1 : (x.kind == 5) = true := by rw [y1]; rfl
        clear y1
        by_cases y2 : x.num = 1
        · have d2 : (x.num == 1) = true := by rw [y2]; rfl
          clear y2
          by_cases y3 : cv = 0
          · have d3 : (cv == 0) = true := by rw [y3]; rfl
            clear y3
            have HM := Lib.hid (HE5.out.2.2.trans ((Mapt.refl HF.out.2.2.2.isMap).fresh HR.out))
            go_wp2_with fail
            exact HN.out _ HM.out
          · have d3 : (cv == 0) = false := by simpa using y3
            clear y3
            go_wp2_with fail
            go_roundg (s.cells.length - (k + 1))
            case measure => omega
            case rel => exact ⟨k + 1, by omega, rfl, by go_num, HR.out, HR.out.size⟩
        · have d2 : (x.num == 1) = false := by simpa using y2
          clear y2
          go_wp2_with fail
          go_roundg (s.cells.length - (k + 1))
          case measure => omega
          case rel => exact ⟨k + 1, by omega, rfl, by go_num, HR.out, HR.out.size⟩
      · have d1 : (x.kind == 5) = false := by simpa using y1
        clear y1
        go_wp2_with fail
        go_roundg (s.cells.length - (k + 1))
        case measure => omega
        case rel => exact ⟨k + 1, by omega, rfl, by go_num, HR.out, HR.out.size⟩
    · have hCC := HC4.out.1 (by simp)
      have hDD := HE5.out.1 (by simp)
      have HM := Lib.hid (And.intro hCC (And.intro hDD (HE5.out.2.2.trans ((Mapt.refl HF.out.2.2.2.isMap).fresh hbr)))); clear hCC hDD
      go_wp2_with fail
      rw [← HP.out]
      exact ⟨true, rfl, fun _ => ⟨HM.out.1, HM.out.2.1⟩, HM.out.2.2⟩
end Top
end Go.Proofs.YtdlcooplllimeaaGreatDoor

/- state.Check. -/
namespace Go.Proofs.YtdlcooplllimeaaGreatDoor
open Go.RowKit

attribute [local go_sem ↓] Go.wp_at_zero Go.wp_at_succ

namespace Top
theorem egSc1 : ∀ args w, (callFunc 33 args).run Tryz.prog w = .ok (.enter 33 args) w := fun _ _ => by kernel_rfl
set_option maxRecDepth 100000 in
theorem sck1_any (w : World) (n hc : Nat) (A : Option Addr) (a b c d : Int) :
    Calls Tryz.prog 33 #[.agg #[.slice A n hc, .int .i64 a, .int .i64 b, .int .i64 c, .int .i64 d]] w fun e w' => ∃ b : Bool, e = .returned (.bool b) ∧ (b = false → n ≤ 30) ∧ Below w.heap.size w w' := by
  have HB := Lib.hid (fun o => (Below.refl w.heap.size w).alloc (Nat.le_refl _) o)
  go_enter Tryz.func33, Tryz.ntmps33
  go_wp2_with fail
  go_returns
  refine ⟨_, rfl, fun h => ?_, HB.out _⟩
  simp at h
  omega
/-- what state.Check lets pass -/
structure ScOk (pg : Pg) (s : Stt) : Prop where
  cd : CdOk pg
  cl : ClOk s
  th : s.threads.length ≤ 5
  fr : ∀ t ∈ s.threads, t.frames.length ≤ 30
  rg : RgL pg s
def ScPost (pg : Pg) (s : Stt) (w : World) (e : Ending) (w' : World) : Prop := ∃ r : Int, e = .returned (.int .i64 r) ∧ (r = 0 → ScOk pg s) ∧ Below w.heap.size w w'
set_option maxHeartbeats 3200000 in
set_option maxRecDepth 100000 in
theorem stCheck_any (w : World) (B : Nat) (pg : Pg) (s : Stt) (FA KA XA CA SA TA HA EA DA : Option Addr) (fc kc xc cc sc tc hc ec dc : Nat) (hF : At w B FA pg.fns) (hK : At w B KA pg.consts) (hX : At w B XA pg.texts) (hxc : pg.texts.length ≤ xc ∧ xc ≤ maxLen) (h : StP w B s CA SA TA HA EA DA cc sc tc hc ec dc) (hB : B ≤ w.heap.size) (hT : Tabs w) :
    Calls Tryz.prog 14 #[.agg #[.slice FA pg.fns.length fc, .slice KA pg.consts.length kc, .slice XA pg.texts.length xc], .agg #[.slice CA s.cells.length cc, .slice SA s.shapes.length sc, .slice TA s.texts.length tc, .slice HA s.threads.length hc, .slice EA s.ends.length ec, .slice DA s.said.length dc, .int .i64 s.asked, .int .i64 s.steps]] w (ScPost pg s w) := by
  obtain ⟨P, hP⟩ : ∃ P, ScPost pg s w = P := ⟨_, rfl⟩
  have HP := Lib.hid hP; rw [hP]; clear hP
  have hfin : ∀ (r : Int) (w' : World), r ≠ 0 → Below w.heap.size w w' → P (.returned (.int .i64 r)) w' := by
    intro r w' hr hb
    rw [← HP.out]
    exact ⟨r, rfl, fun h => absurd h hr, hb⟩
  have HN := Lib.hid hfin; clear hfin
  have H := Lib.hid (And.intro hF (And.intro hK (And.intro hX (And.intro hxc (And.intro h hT))))); clear hF hK hX hxc h hT
  go_enter Tryz.func14, Tryz.ntmps14
  go_upto_region 1 with fail
  refine wp_world (fun W => Blk W w.heap.size 26 #[.slice FA pg.fns.length fc, .slice KA pg.consts.length kc, .slice XA pg.texts.length xc] ∧ Blk W (w.heap.size + 1) 32 #[.slice CA s.cells.length cc, .slice SA s.shapes.length sc, .slice TA s.texts.length tc, .slice HA s.threads.length hc, .slice EA s.ends.length ec, .slice DA s.said.length dc, .int .i64 s.asked, .int .i64 s.steps] ∧ Below w.heap.size w W ∧ W.heap.size = w.heap.size + 2) ⟨?_, ?_, ?_, ?_⟩ ?_
  · exact (Blk.new w _ _).fresh ((Below.refl _ _).alloc (Nat.le_refl _) _)
  · have := Blk.new (w.alloc (.cells #[.slice FA pg.fns.length fc, .slice KA pg.consts.length kc, .slice XA pg.texts.length xc] 26)) 32 #[.slice CA s.cells.length cc, .slice SA s.shapes.length sc, .slice TA s.texts.length tc, .slice HA s.threads.length hc, .slice EA s.ends.length ec, .slice DA s.said.length dc, .int .i64 s.asked, .int .i64 s.steps]
    simpa using this
  · exact ((Below.refl _ _).alloc (Nat.le_refl _) _).alloc (by simp) _
  · simp
  rintro W ⟨hPr, hSt, hbW, hsW⟩
  have p0 := hPr.cell 0 (v := .slice FA pg.fns.length fc) rfl
  have p1 := hPr.cell 1 (v := .slice KA pg.consts.length kc) rfl
  have p2 := hPr.cell 2 (v := .slice XA pg.texts.length xc) rfl
  have hcc := codeCheck_any pg fc kc xc B FA KA XA W (H.out.1.below (hbW.mono hB)) (H.out.2.1.below (hbW.mono hB)) (H.out.2.2.1.below (hbW.mono hB)) (by omega) H.out.2.2.2.1 (H.out.2.2.2.2.2.fresh hbW)
  have HW := Lib.hid (And.intro hcc (And.intro hPr (And.intro hSt hbW))); clear hcc hPr hSt hbW
  go_wp2_with fail
  refine HW.out.1.mono ?_
  rintro e w1 ⟨r, rfl, hcd, -, hb1⟩
  have hbl1 := HW.out.2.2.2.trans (hb1.mono (by omega))
  have H1 := Lib.hid (And.intro hcd (And.intro hb1 hbl1)); clear hcd hb1 hbl1 p0 p1 p2
  by_cases hr : r = 0
  case neg =>
    have dr : (r == 0) = false := by simpa using hr
    have HE := Lib.hid (And.intro hr H1.out.2.2); clear hr
    go_wp2_with fail
    exact HN.out _ _ HE.out.1 HE.out.2
  subst hr
  have hcd := H1.out.1 rfl
  have hs1 := H1.out.2.1.size
  have hSt1 := HW.out.2.2.1.fresh H1.out.2.1
  have s0 := hSt1.cell 0 (v := .slice CA s.cells.length cc) rfl
  have s1 := hSt1.cell 1 (v := .slice SA s.shapes.length sc) rfl
  have s2 := hSt1.cell 2 (v := .slice TA s.texts.length tc) rfl
  have s3 := hSt1.cell 3 (v := .slice HA s.threads.length hc) rfl
  have s4 := hSt1.cell 4 (v := .slice EA s.ends.length ec) rfl
  have s5 := hSt1.cell 5 (v := .slice DA s.said.length dc) rfl
  have s6 := hSt1.cell 6 (v := .int .i64 s.asked) rfl
  have s7 := hSt1.cell 7 (v := .int .i64 s.steps) rfl
  have hcc := clCheck_any w1 B s CA SA TA HA EA DA cc sc tc hc ec dc (H.out.2.2.2.2.1.below (H1.out.2.2.mono hB)) (by omega) (H.out.2.2.2.2.2.fresh H1.out.2.2)
  have H2 := Lib.hid (And.intro hcc hcd); clear hcc hcd hSt1
  go_wp2_with fail
  refine H2.out.1.mono ?_
  rintro e w2 ⟨r, rfl, hcl, hb2⟩
  have hbl2 := H1.out.2.2.trans (hb2.mono (by omega))
  have hbW2 := H1.out.2.1.trans (hb2.mono (by omega))
  have H3 := Lib.hid (And.intro hcl (And.intro hbW2 hbl2)); clear hcl hbW2 hbl2 hb2 s0 s1 s2 s3 s4 s5 s6 s7
  by_cases hr : r = 0
  case neg =>
    have dr : (r == 0) = false := by simpa using hr
    have HE := Lib.hid (And.intro hr H3.out.2.2); clear hr
    go_wp2_with fail
    exact HN.out _ _ HE.out.1 HE.out.2
  subst hr
  have hs2 := H3.out.2.1.size
  have s3 := (HW.out.2.2.1.fresh H3.out.2.1).cell 3 (v := .slice HA s.threads.length hc) rfl
  by_cases h5 : s.threads.length ≤ 5
  case neg =>
    have d6 : decide ((5 : Int) < (s.threads.length : Int)) = true := by simp; omega
    have HE := Lib.hid H3.out.2.2; clear h5
    go_wp2_with fail
    exact HN.out 2 _ (by decide) HE.out
  have d6 : decide ((5 : Int) < (s.threads.length : Int)) = false := by simp; omega
  have hct := ctFThread_any HA hc B 33 s.threads.length #[] s.threads w2 (fun t => t.frames.length ≤ 30) rfl (H.out.2.2.2.2.1.below (H3.out.2.2.mono hB)).a4 (by omega) (by omega) egSc1
    (fun V hV x hx Av cv _ _ _ => sck1_any V x.frames.length cv Av _ _ _ _)
  have H4 := Lib.hid hct; clear hct
  go_wp2_with fail
  refine H4.out.mono ?_
  rintro e w3 ⟨b, rfl, hfr, hb3⟩
  have hbl3 := H3.out.2.2.trans (hb3.mono (by omega))
  have hbW3 := H3.out.2.1.trans (hb3.mono (by omega))
  have H5 := Lib.hid (And.intro hfr (And.intro hbW3 hbl3)); clear hfr hbW3 hbl3 hb3 s3
  cases b with
  | true =>
    go_wp2_with fail
    exact HN.out 2 _ (by decide) H5.out.2.2
  | false =>
  have hfr := H5.out.1 (by simp)
  have hs3 := H5.out.2.1.size
  have hP3 := HW.out.2.1.fresh H5.out.2.1
  have p0 := hP3.cell 0 (v := .slice FA pg.fns.length fc) rfl
  have p1 := hP3.cell 1 (v := .slice KA pg.consts.length kc) rfl
  have p2 := hP3.cell 2 (v := .slice XA pg.texts.length xc) rfl
  have hmm := run_makeMap (P := Tryz.prog) 89 w3
  have HG := Lib.hid (And.intro hfr hP3); clear hfr hP3
  go_upto_region 10 with fail
  refine wp_world (fun V => Blk V (w3.heap.size + 1) 104 #[.slice FA pg.fns.length fc, .slice KA pg.consts.length kc, .slice XA pg.texts.length xc, .pointer (some ⟨w.heap.size + 1, 0, none⟩), .slice none 0 0, .slice none 0 0, .map (some w3.heap.size)] ∧ Below (w3.heap.size + 1) (w3.alloc (.map #[] 0)) V ∧ V.heap.size = w3.heap.size + 2) ⟨?_, ?_, ?_⟩ ?_
  · have := Blk.new (w3.alloc (.map #[] 0)) 104 #[.slice FA pg.fns.length fc, .slice KA pg.consts.length kc, .slice XA pg.texts.length xc, .pointer (some ⟨w.heap.size + 1, 0, none⟩), .slice none 0 0, .slice none 0 0, .map (some w3.heap.size)]
    simpa using this
  · exact (Below.refl _ _).alloc (by simp) _
  · simp
  rintro V ⟨hLk, hbV, hsV⟩
  have hbV3 : Below w3.heap.size w3 V := ((Below.refl _ _).alloc (Nat.le_refl _) _).trans (hbV.mono (by omega))
  have hbVw : Below w.heap.size w V := H5.out.2.2.trans (hbV3.mono (by omega))
  have hPV := HG.out.2.fresh hbV3
  have p0 := hPV.cell 0 (v := .slice FA pg.fns.length fc) rfl
  have p1 := hPV.cell 1 (v := .slice KA pg.consts.length kc) rfl
  have p2 := hPV.cell 2 (v := .slice XA pg.texts.length xc) rfl
  have hall := codeAll_any B pg.fns.length fc pg.consts.length kc pg.texts.length xc FA KA XA pg.fns V (H.out.1.below (hbVw.mono hB)) (by omega) rfl H2.out.2.one.2 (fun f hf => ⟨(H2.out.2.fn f hf).2.1, (H2.out.2.fn f hf).2.2⟩)
  have HV := Lib.hid (And.intro hall (And.intro hLk (And.intro hbV (And.intro hbV3 hbVw)))); clear hall hLk hbV hbV3 hbVw hPV hmm
  go_wp2_with fail
  refine HV.out.1.mono ?_
  rintro e V1 ⟨hbA, A1, A2, c1, c2, l1, l2, rfl, hAT⟩
  have hL1 := HV.out.2.1.fresh hbA
  have c4 := hL1.cell 4 (v := .slice none 0 0) rfl
  have c5 := hL1.cell 5 (v := .slice none 0 0) rfl
  have z4 := hL1.frozen 4
  have z5 := hL1.frozen 5
  have HA1 := Lib.hid (And.intro hbA (And.intro hAT hL1)); clear hbA hAT hL1 p0 p1 p2
  go_upto_region 11 with fail
  refine wp_world (fun V2 => Blk V2 (w3.heap.size + 1) 104 #[.slice FA pg.fns.length fc, .slice KA pg.consts.length kc, .slice XA pg.texts.length xc, .pointer (some ⟨w.heap.size + 1, 0, none⟩), .slice A1 pg.fns.length c1, .slice A2 pg.fns.length c2, .map (some w3.heap.size)] ∧ Kept ML V1 V2 ∧ Below (w3.heap.size + 1) V1 V2 ∧ V2.heap.size = V1.heap.size) ⟨?_, ?_, ?_, ?_⟩ ?_
  · have := (HA1.out.2.2.set_ 4 (.slice A1 pg.fns.length c1)).set_ 5 (.slice A2 pg.fns.length c2)
    simpa using this
  · exact ((Kept.refl V1 : Kept ML V1 V1).setBlk HA1.out.2.2 (show ML _ from rfl) 4 _).setBlk (HA1.out.2.2.set_ 4 _) (show ML _ from rfl) 5 _
  · exact ((Below.refl _ _).setCell (p := ⟨w3.heap.size + 1, 4, none⟩) (Nat.le_refl _) _).setCell (p := ⟨w3.heap.size + 1, 5, none⟩) (Nat.le_refl _) _
  · simp
  rintro V2 ⟨hL2, hk2, hb2, hs2'⟩
  clear c4 c5 z4 z5
  have hsA := HA1.out.1.size
  have hbc : Below (w3.heap.size + 1) (w3.alloc (.map #[] 0)) V2 := (HV.out.2.2.1.trans (HA1.out.1.mono (by omega))).trans hb2
  have hb3 : Below w3.heap.size w3 V2 := ((Below.refl _ _).alloc (Nat.le_refl _) _).trans (hbc.mono (by omega))
  have hb0 : Below w.heap.size w V2 := H5.out.2.2.trans (hb3.mono (by omega))
  have hbW : Below W.heap.size W V2 := H5.out.2.1.trans (hb3.mono (by omega))
  have hmp : MapN V2 3 w3.heap.size 0 := (MapN.made w3 3).kept (by simpa using hbc)
  obtain ⟨X, Y, hX, hY, hTO⟩ := tabs_of (HA1.out.2.1.keptL hk2)
  have hS2 := HW.out.2.2.1.fresh hbW
  have hSP := H.out.2.2.2.2.1.below (hb0.mono hB)
  have hsz2 := hb0.size
  have hLk : LkA V2 (w3.heap.size + 1) (w.heap.size + 1) w3.heap.size pg s := ⟨FA, KA, XA, A1, A2, fc, kc, xc, c1, c2, X, Y, hL2, hSP.stA hS2 (by omega), (H.out.1.below (hb0.mono hB)).more (by omega), (H.out.2.2.1.below (hb0.mono hB)).more (by omega), hX, hY, hTO⟩
  have htx : TxCap V2 (w.heap.size + 1) := by
    intro A n c hc'
    have := hS2.cell 2 (v := .slice TA s.texts.length tc) rfl
    rw [this] at hc'
    injection hc' with hc'
    injection hc' with _ h2 h3
    rw [← h2, ← h3]; exact hSP.k3
  have hrg := rightS_any V2 (w3.heap.size + 1) (w.heap.size + 1) w3.heap.size 0 pg s hLk hmp htx (H3.out.1 (by simp)) H2.out.2 h5 HG.out.1 (by omega)
  have HR := Lib.hid (And.intro hrg hb0); clear hrg hb0 hLk htx hS2 hSP hX hY hTO hmp hbc hb3 hbW hL2 hk2 hb2
  go_wp2_with fail
  refine HR.out.1.mono ?_
  rintro e V3 ⟨b, rfl, hb, hm⟩
  have hfin3 : Below w.heap.size w V3 := HR.out.2.trans (hm.below (by omega) (by omega))
  have HZ := Lib.hid (And.intro hb hfin3); clear hb hm hfin3
  cases b with
  | false =>
    go_wp2_with fail
    exact HN.out 3 _ (by decide) HZ.out.2
  | true =>
    go_wp2_with fail
    rw [← HP.out]
    exact ⟨0, rfl, fun _ => ⟨H2.out.2, H3.out.1 (by simp), h5, HG.out.1, HZ.out.1 (by simp)⟩, HZ.out.2⟩
end Top
end Go.Proofs.YtdlcooplllimeaaGreatDoor

/- state: what state.Check lets pass is a right state. -/
namespace Go.Proofs.YtdlcooplllimeaaGreatDoor
open Go.RowKit

namespace Top
/-- every int of a state is an int -/
theorem pair_i64 {w : World} {B : Nat} {A : Option Addr} {l : List (Int × Int)} (h : At w B A l) : ∀ v ∈ l, I64 v.1 ∧ I64 v.2 := by
  intro v hv
  obtain ⟨k, hk⟩ := List.getElem?_of_mem hv
  obtain ⟨b, o, x, -, -, hx, -, -, i0, i1⟩ := h.pairT (k := k) (List.getElem?_eq_some_iff.1 hk).1
  rw [hk] at hx
  injection hx with hx
  subst hx
  exact ⟨i0, i1⟩
theorem fr_i64 {w : World} {B : Nat} {A : Option Addr} {l : List Fr} (h : At w B A l) : ∀ f ∈ l, I64 f.self.2 ∧ ∀ v ∈ f.regs, I64 v.2 := by
  intro v hv
  obtain ⟨k, hk⟩ := List.getElem?_of_mem hv
  obtain ⟨b, o, x, AR, cr, AT, ct, -, -, hx, -, -, -, -, -, -, -, -, hR, -, -, -, hi⟩ := h.fr_ (k := k) (List.getElem?_eq_some_iff.1 hk).1
  rw [hk] at hx
  injection hx with hx
  subst hx
  exact ⟨hi.2.2.2.2.2, fun v hv => (pair_i64 hR v hv).2⟩
def StI64 (s : Stt) : Prop := ∀ c ∈ s.cells, (∀ v ∈ c.vals, I64 v.1 ∧ I64 v.2) ∧ ∀ f ∈ c.frames, I64 f.self.2 ∧ ∀ v ∈ f.regs, I64 v.2
theorem st_i64 {w : World} {B : Nat} {s : Stt} {CA SA TA HA EA DA : Option Addr} {cc sc tc hc ec dc : Nat} (h : StP w B s CA SA TA HA EA DA cc sc tc hc ec dc) : StI64 s := by
  intro c hc'
  obtain ⟨k, hk⟩ := List.getElem?_of_mem hc'
  obtain ⟨b, o, x, VA, vc, FA, fc, -, -, hx, -, -, -, -, hV, -, hF, -, -, -⟩ := h.a1.ce_ (k := k) (List.getElem?_eq_some_iff.1 hk).1
  rw [hk] at hx
  injection hx with hx
  subst hx
  exact ⟨pair_i64 hV, fr_i64 hF⟩
theorem FrL.ok {pg : Pg} {s : Stt} {f : Fr} (h : FrL pg s f) : FrOk s.texts.length s.cells.length f := ⟨h.2.2.2.1, h.2.2.2.2, h.2.1, h.2.2.1⟩
theorem ScOk.sok {pg : Pg} {s : Stt} (h : ScOk pg s) (hi : StI64 s) : SOk s where
  many := ⟨h.cl.1.1, h.cl.1.2.1⟩
  vlen := fun c hc => h.cl.1.2.2.2.2 c hc
  vals := fun c hc v hv => ⟨((hi c hc).1 v hv).1, ((hi c hc).1 v hv).2, (h.cl.2.1 c hc).1 v hv⟩
  frs := fun c hc => by
    obtain ⟨-, -, h3, -, -⟩ := h.cl.2.1 c hc
    refine ⟨by rw [h3]; split <;> omega, fun f hf => ?_⟩
    by_cases hk : c.kind = 5 ∧ c.num = 0
    · obtain ⟨q1, q2⟩ := h.rg.1 c hc hk.1 hk.2 f hf
      exact ⟨q1.ok, q2⟩
    · rw [if_neg hk] at h3
      rw [List.eq_nil_of_length_eq_zero h3] at hf
      cases hf
  i64 := fun c hc => (hi c hc).2
  weak := fun c hc hk => (h.cl.2.1 c hc).2.2.2.1 hk
  ths := fun t ht => by
    obtain ⟨q1, q2, q3⟩ := h.rg.2 t ht
    exact ⟨fun f hf => ⟨(q1 f hf).1.ok, (q1 f hf).2⟩, q2, q3⟩
  ends := fun e he => h.cl.2.2 e he
end Top
end Go.Proofs.YtdlcooplllimeaaGreatDoor
