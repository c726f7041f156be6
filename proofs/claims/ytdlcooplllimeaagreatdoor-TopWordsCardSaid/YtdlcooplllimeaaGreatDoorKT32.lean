/- KT: ClC, ClD, KpC, ClE. -/
import Derived.Test.YtdlcooplllimeaaGreatDoorKT13
import Derived.Test.YtdlcooplllimeaaGreatDoorKT23
import Derived.Test.YtdlcooplllimeaaGreatDoorKT31
import Derived.Deep.CutBlock
/- cells.cell: a cell that is as its kind says, is right. -/
namespace Go.Proofs.YtdlcooplllimeaaGreatDoor
open Go.RowKit

attribute [local go_sem ↓] Go.wp_at_zero Go.wp_at_succ

namespace Top
abbrev fitsS (s : Stt) (v : Int × Int) : Prop := fitsV s.texts.length s.cells.length v
theorem egCell1 : ∀ args w, (callFunc 126 args).run Tryz.prog w = .ok (.enter 126 args) w := fun _ _ => by kernel_rfl
theorem egCell2 : ∀ args w, (callFunc 130 args).run Tryz.prog w = .ok (.enter 130 args) w := fun _ _ => by kernel_rfl
set_option maxRecDepth 100000 in
theorem cell1_any (w : World) (p q : Nat) (s : Stt) (k n : Int) (h : StA w p s) (hq : Blk w q 78 #[.pointer (some ⟨p, 0, none⟩)]) (hk : I64 k) (hn : I64 n) :
    Calls Tryz.prog 126 #[.agg #[.int .i64 k, .int .i64 n], .pointer (some ⟨q, 0, none⟩)] w fun e w' => ∃ b : Bool, e = .returned (.bool b) ∧ (b = false → True) ∧ Below w.heap.size w w' := by
  have hqlt := hq.lt
  have q0 := hq.cell 0 (v := .pointer (some ⟨p, 0, none⟩)) rfl
  have hb0 : Below w.heap.size w (w.alloc (.cells #[.int .i64 k, .int .i64 n] 48)) := (Below.refl _ _).alloc (Nat.le_refl _) _
  have hf := is_any _ p s k n 3 (h.fresh hb0) hk hn
  have H := Lib.hid (And.intro hf hb0); clear hf hb0 h hq hk hn
  go_enter Tryz.func126, Tryz.ntmps126
  go_wp2_with fail
  refine H.out.1.mono ?_
  rintro e w1 ⟨b, rfl, hb, hb1⟩
  have HB := Lib.hid hb1; clear hb hb1
  go_wp2_with fail
  go_returns
  exact ⟨_, rfl, fun _ => trivial, H.out.2.trans (HB.out.mono (by simp))⟩
set_option maxHeartbeats 800000 in
set_option maxRecDepth 100000 in
theorem cell2_any (w : World) (p q B rc tc : Nat) (RA TA : Option Addr) (s : Stt) (f : Fr) (h : StA w p s) (hq : Blk w q 78 #[.pointer (some ⟨p, 0, none⟩)]) (hR : At w B RA f.regs) (hrc : f.regs.length ≤ rc ∧ rc ≤ maxLen) (hB : B ≤ w.heap.size) (h1 : I64 f.self.1) (h2 : I64 f.self.2) :
    Calls Tryz.prog 130 #[.agg #[.int .i64 f.fn, .int .i64 f.at_, .int .i64 f.fto, .int .i64 f.gen, .int .i64 f.self.1, .int .i64 f.self.2, .slice RA f.regs.length rc, .slice TA f.tries.length tc], .pointer (some ⟨q, 0, none⟩)] w fun e w' => ∃ b : Bool, e = .returned (.bool b) ∧ (b = false → (∀ v ∈ f.regs, fitsS s v) ∧ fitsS s f.self) ∧ Below w.heap.size w w' := by
  have hqlt := hq.lt
  have q0 := hq.cell 0 (v := .pointer (some ⟨p, 0, none⟩)) rfl
  have hb0 : Below w.heap.size w (w.alloc (.cells #[.int .i64 f.fn, .int .i64 f.at_, .int .i64 f.fto, .int .i64 f.gen, .int .i64 f.self.1, .int .i64 f.self.2, .slice RA f.regs.length rc, .slice TA f.tries.length tc] 141)) := (Below.refl _ _).alloc (Nat.le_refl _) _
  have ha := all_any' _ p B rc RA s f.regs (h.fresh hb0) (hR.below (hb0.mono hB)) (by simp; omega) (by unfold maxLen at hrc; omega)
  have H := Lib.hid (And.intro ha (And.intro hb0 (And.intro h hq))); clear ha hb0 h hq hR
  go_enter Tryz.func130, Tryz.ntmps130
  go_wp2_with fail
  refine H.out.1.mono ?_
  rintro e w1 ⟨b, rfl, hb, hb1⟩
  have hbl := H.out.2.1.trans (hb1.mono (by simp))
  have hF := (Blk.new w 141 #[.int .i64 f.fn, .int .i64 f.at_, .int .i64 f.fto, .int .i64 f.gen, .int .i64 f.self.1, .int .i64 f.self.2, .slice RA f.regs.length rc, .slice TA f.tries.length tc]).fresh hb1
  have f4 := hF.cell 4 (v := .int .i64 f.self.1) rfl
  have f5 := hF.cell 5 (v := .int .i64 f.self.2) rfl
  have q1 := (H.out.2.2.2.fresh hbl).cell 0 (v := .pointer (some ⟨p, 0, none⟩)) rfl
  cases b with
  | false =>
    have HB := Lib.hid hbl; clear hb hb1 hbl hF q0
    go_wp2_with fail
    go_returns
    exact ⟨_, rfl, fun h => (by cases h), HB.out⟩
  | true =>
    have hft := fits_any w1 p s f.self.1 f.self.2 (H.out.2.2.1.fresh hbl) h1 h2
    have HB := Lib.hid (And.intro hft (And.intro hbl (hb rfl))); clear hft hb hb1 hbl hF q0
    go_wp2_with fail
    refine HB.out.1.mono ?_
    rintro e w2 ⟨b, rfl, hb, hb2⟩
    have H2 := Lib.hid (And.intro hb (HB.out.2.1.trans (hb2.mono HB.out.2.1.size))); clear hb hb2
    go_wp2_with fail
    go_returns
    exact ⟨_, rfl, fun h => ⟨HB.out.2.2, H2.out.1 (by simpa using h)⟩, H2.out.2⟩
def ShCap (w : World) (p : Nat) : Prop := ∀ (A : Option Addr) (n c : Nat), w.cell? ⟨p, 1, none⟩ = some (.slice A n c) → n ≤ c ∧ c ≤ maxLen
theorem ShCap.fresh {w w' : World} {p : Nat} (h : ShCap w p) (hp : p < w.heap.size) (hb : Below w.heap.size w w') : ShCap w' p := fun A n c hc => h A n c ((hb.cell (p := ⟨p, 1, none⟩) hp).symm.trans hc)
def CeOk (s : Stt) (c : Ce) : Prop := (∀ v ∈ c.vals, fitsS s v) ∧ (∀ f ∈ c.frames, (∀ v ∈ f.regs, fitsS s v) ∧ fitsS s f.self) ∧ c.frames.length = (if c.kind = 5 ∧ c.num = 0 then 1 else 0) ∧ (c.kind = 7 → WkOk c.vals) ∧ (c.kind = 4 → 0 ≤ c.num)

set_option maxHeartbeats 3200000 in
set_option maxRecDepth 100000 in
theorem cell_any (w : World) (p B vc fc : Nat) (VA FA : Option Addr) (s : Stt) (c : Ce) (h : StA w p s) (hV : At w B VA c.vals) (hvc : c.vals.length ≤ vc ∧ vc ≤ maxLen) (hF : At w B FA c.frames) (hfc : c.frames.length ≤ fc ∧ fc ≤ maxLen) (hB : B ≤ w.heap.size) (hs1 : c.vals.length ≤ 600) (_hs2 : s.cells.length ≤ 300)  (hs3 : ShCap w p) :
    Calls Tryz.prog 78 #[.pointer (some ⟨p, 0, none⟩), .agg #[.int .i64 c.kind, .int .i64 c.num, .slice VA c.vals.length vc, .slice FA c.frames.length fc]] w fun e w' => ∃ b : Bool, e = .returned (.bool b) ∧ (b = true → CeOk s c) ∧ Below w.heap.size w w' := by
  obtain ⟨P, hP⟩ : ∃ P : Ending → World → Prop, (fun e w' => ∃ b : Bool, e = .returned (.bool b) ∧ (b = true → CeOk s c) ∧ Below w.heap.size w w') = P := ⟨_, rfl⟩
  have HP := Lib.hid hP; rw [hP]; clear hP
  have hplt := h.lt
  obtain ⟨hfc1, hfc2⟩ := hfc
  obtain ⟨hvc1, hvc2⟩ := hvc
  unfold maxLen at hfc2 hvc2
  have H := Lib.hid (And.intro h (And.intro hV hF)); clear h hV hF
  go_enter Tryz.func78, Tryz.ntmps78
  go_upto_region 1 with fail
  refine wp_world (fun W => Blk W w.heap.size 78 #[.pointer (some ⟨p, 0, none⟩)] ∧ Blk W (w.heap.size + 1) 46 #[.int .i64 c.kind, .int .i64 c.num, .slice VA c.vals.length vc, .slice FA c.frames.length fc] ∧ Below w.heap.size w W ∧ w.heap.size + 2 ≤ W.heap.size) ⟨(Blk.new _ _ _).alloc _, Blk.at_ _ _ _ (by simp), ((Below.refl _ _).alloc (Nat.le_refl _) _).alloc (by simp) _, by simp⟩ ?_
  rintro W ⟨hq, hC, hbW, hsW⟩
  have c0 := hC.cell 0 (v := .int .i64 c.kind) rfl
  have c1 := hC.cell 1 (v := .int .i64 c.num) rfl
  have c2 := hC.cell 2 (v := .slice VA c.vals.length vc) rfl
  have HW := Lib.hid (And.intro hq (And.intro hC hbW)); clear hq hC hbW
  go_quiet (fail)
  go_upto_block 0 with fail
  go_cut [5, 6, 7] from 8 to 81 (fun v5 v6 v7 W2 => ∃ (bn bv : Bool) (fr : Int), v5 = .bool bn ∧ v6 = .bool bv ∧ v7 = .int .i64 fr ∧ Hid ((bv = true → c.kind = 7 → WkOk c.vals) ∧ (bn = true → c.kind = 4 → 0 ≤ c.num) ∧ fr = (if c.kind = 5 ∧ c.num = 0 then 1 else 0) ∧ Below W.heap.size W W2))
  case first =>
    refine wp_world (fun V => Below W.heap.size W V) (below_drewN (Below.refl _ _) _) ?_
    clear c0 c1 c2
    rintro V hV
    have hVs := hV.size
    have hStV := (H.out.1.fresh HW.out.2.2).fresh hV
    have hCap := (hs3.fresh hplt HW.out.2.2).fresh (by omega) hV
    have c0 := (HW.out.2.1.fresh hV).cell 0 (v := .int .i64 c.kind) rfl
    have c1 := (HW.out.2.1.fresh hV).cell 1 (v := .int .i64 c.num) rfl
    have c2 := (HW.out.2.1.fresh hV).cell 2 (v := .slice VA c.vals.length vc) rfl
    have q0 := (HW.out.1.fresh hV).cell 0 (v := .pointer (some ⟨p, 0, none⟩)) rfl
    have hVb := Lib.hid hV
    have HS := Lib.hid (And.intro hStV hCap); clear hStV hCap
    by_cases k0 : c.kind = 0
    · have HKK := Lib.hid k0
      have d0 : (c.kind == 0) = true := by rw [k0]; rfl
      clear hV c1 c2 q0 k0
      go_wp2_with fail
      go_meet
      exact ⟨_, _, _, rfl, rfl, rfl, ⟨fun _ h => absurd (HKK.out.symm.trans h) (by decide), fun _ h => absurd (HKK.out.symm.trans h) (by decide), by rw [if_neg]; rintro ⟨h, -⟩; exact absurd (HKK.out.symm.trans h) (by decide), hVb.out⟩⟩
    have d0 : (c.kind == 0) = false := by simpa using k0
    clear k0
    by_cases k1 : c.kind = 1
    · have HKK := Lib.hid k1
      have d1 : (c.kind == 1) = true := by rw [k1]; rfl
      clear k1
      obtain ⟨CA, SA, TA, HA, EA, DA, cc, sc, tc, hc, ec, dc, h1, -, hSh, -⟩ := HS.out.1
      have hcap := HS.out.2 SA s.shapes.length sc (h1.cell 1 rfl)
      have HV2 := Lib.hid (And.intro (HW.out.1.fresh hV) (And.intro (HW.out.2.1.fresh hV) h1)); clear h1 c0 c1 c2 q0
      have hwl : IntKind.i64.wrap ((s.shapes.length : Int) - 1) = (s.shapes.length : Int) - 1 := IntWalk.i64_in _ (by have := hcap; unfold maxLen at this; omega)
      obtain ⟨b5, hb5⟩ : ∃ b, ∀ w, Calls Tryz.prog 84 #[.int .i64 c.num, .int .i64 0, .int .i64 ((s.shapes.length : Int) - 1)] w fun e w' => e = .returned (.bool b) ∧ w = w' := ⟨decide (0 ≤ c.num) && decide (c.num ≤ (s.shapes.length : Int) - 1), fun w => cwithin_any c.num 0 ((s.shapes.length : Int) - 1) w⟩
      have hnm := fun Z (hZ : Below V.heap.size V Z) => shNames_any SA sc V.heap.size s.shapes.length s.shapes c.num Z rfl (hSh.below hZ) hZ.size hcap
      have HN := Lib.hid (And.intro hb5 hnm); clear hb5 hnm hSh hcap hV
      have BX : Below V.heap.size V V.drew := (Below.refl _ _).drew
      go_upto_region 6 with fail
      refine wp_region_held_drew (S := (fun w' => w'.cell? ⟨w.heap.size, 0, none⟩ = some (.pointer (some ⟨p, 0, none⟩)) ∧ w'.cell? ⟨w.heap.size + 1, 1, none⟩ = some (.int .i64 c.num) ∧ w'.cell? ⟨w.heap.size + 1, 2, none⟩ = some (.slice VA c.vals.length vc) ∧ w'.cell? ⟨p, 1, none⟩ = some (.slice SA s.shapes.length sc))) (by kernel_rfl) ?_ (fun hHeld0 => ?_)
      · first | trivial | ((try dsimp only); (exact ⟨(HV2.out.1.fresh BX).cell 0 rfl, (HV2.out.2.1.fresh BX).cell 1 rfl, (HV2.out.2.1.fresh BX).cell 2 rfl, (HV2.out.2.2.fresh BX).cell 1 rfl⟩))
      refine htk 0 rfl ?_
      try go_frame
      refine htk 1 rfl ?_
      try go_frame
      refine htk 2 rfl ?_
      try go_frame
      refine htk 3 rfl ?_
      try go_frame
      refine htk 4 rfl ?_
      try go_frame
      refine htk 5 rfl ?_
      try go_frame
      refine htk 6 rfl ?_
      try go_frame
      refine htk 7 rfl ?_
      try go_frame
      refine held_call 8 (by kernel_rfl) rfl (fun K hK => ?_)
      go_simp
      refine (HN.out.1 _).mono ?_; rintro e w5 ⟨rfl, rfl⟩
      try (go_wp2_with fail)
      refine hK.out _ _ ?_ (fun hHeld1 => ?_)
      · first | trivial | ((try dsimp only); (exact ⟨(HV2.out.1.fresh BX).cell 0 rfl, (HV2.out.2.1.fresh BX).cell 1 rfl, (HV2.out.2.1.fresh BX).cell 2 rfl, (HV2.out.2.2.fresh BX).cell 1 rfl⟩))
      clear hK K hHeld0
      try go_frame
      refine htk 9 rfl ?_
      try go_frame
      refine wpAnyH_done (by kernel_rfl) ?_ _
      clear hwl
      go_upto_region 7 with fail
      refine wp_world (fun Z => Below V.heap.size V Z) BX ?_
      clear BX
      rintro V3 hV3
      have BX : Below V.heap.size V V3.drew := hV3.drew
      cases b5 with
      | false =>
        refine wp_region_held_drew (S := (fun w' => w'.cell? ⟨w.heap.size, 0, none⟩ = some (.pointer (some ⟨p, 0, none⟩)) ∧ w'.cell? ⟨w.heap.size + 1, 1, none⟩ = some (.int .i64 c.num) ∧ w'.cell? ⟨w.heap.size + 1, 2, none⟩ = some (.slice VA c.vals.length vc) ∧ w'.cell? ⟨p, 1, none⟩ = some (.slice SA s.shapes.length sc))) (by kernel_rfl) ?_ (fun hHeld0 => ?_)
        · first | trivial | ((try dsimp only); (exact ⟨(HV2.out.1.fresh BX).cell 0 rfl, (HV2.out.2.1.fresh BX).cell 1 rfl, (HV2.out.2.1.fresh BX).cell 2 rfl, (HV2.out.2.2.fresh BX).cell 1 rfl⟩))
        refine htk 0 rfl ?_
        try go_frame
        refine htk 1 rfl ?_
        try go_frame
        refine hsk 2 rfl ?_
        try go_frame
        refine hsk 3 rfl ?_
        try go_frame
        refine hsk 4 rfl ?_
        try go_frame
        refine hsk 5 rfl ?_
        try go_frame
        refine hsk 6 rfl ?_
        try go_frame
        refine hsk 7 rfl ?_
        try go_frame
        refine hsk 8 rfl ?_
        try go_frame
        refine hsk 9 rfl ?_
        try go_frame
        refine hsk 10 rfl ?_
        try go_frame
        refine hsk 11 rfl ?_
        try go_frame
        refine hsk 12 rfl ?_
        try go_frame
        refine hsk 13 rfl ?_
        try go_frame
        refine htk 14 rfl ?_
        try go_frame
        refine htk 15 rfl ?_
        try go_frame
        refine wpAnyH_done (by kernel_rfl) ?_ _
        go_wp2_with fail
        go_meet
        exact ⟨_, _, _, rfl, rfl, rfl, ⟨fun _ h => absurd (HKK.out.symm.trans h) (by decide), fun _ h => absurd (HKK.out.symm.trans h) (by decide), by rw [if_neg]; rintro ⟨h, -⟩; exact absurd (HKK.out.symm.trans h) (by decide), hVb.out.trans (BX.mono hVs)⟩⟩
      | true =>
        refine wp_region_held_drew (S := (fun w' => w'.cell? ⟨w.heap.size, 0, none⟩ = some (.pointer (some ⟨p, 0, none⟩)) ∧ w'.cell? ⟨w.heap.size + 1, 1, none⟩ = some (.int .i64 c.num) ∧ w'.cell? ⟨w.heap.size + 1, 2, none⟩ = some (.slice VA c.vals.length vc) ∧ w'.cell? ⟨p, 1, none⟩ = some (.slice SA s.shapes.length sc))) (by kernel_rfl) ?_ (fun hHeld0 => ?_)
        · first | trivial | ((try dsimp only); (exact ⟨(HV2.out.1.fresh BX).cell 0 rfl, (HV2.out.2.1.fresh BX).cell 1 rfl, (HV2.out.2.1.fresh BX).cell 2 rfl, (HV2.out.2.2.fresh BX).cell 1 rfl⟩))
        refine htk 0 rfl ?_
        try go_frame
        refine htk 1 rfl ?_
        try go_frame
        refine htk 2 rfl ?_
        try go_frame
        refine htk 3 rfl ?_
        try go_frame
        refine htk 4 rfl ?_
        try go_frame
        refine htk 5 rfl ?_
        try go_frame
        refine htk 6 rfl ?_
        try go_frame
        refine htk 7 rfl ?_
        try go_frame
        refine htk 8 rfl ?_
        try go_frame
        refine htk 9 rfl ?_
        try go_frame
        refine htk 10 rfl ?_
        try go_frame
        refine held_call 11 (by kernel_rfl) rfl (fun K hK => ?_)
        go_simp
        refine (HN.out.2 _ BX).mono ?_; rintro e w5 ⟨NA, nc, nn, rfl, hnn, hb5⟩; have BY := BX.trans (hb5.mono (by have := BX.size; omega)); clear BX; have BX := BY; clear BY
        try (go_wp2_with fail)
        refine hK.out _ _ ?_ (fun hHeld1 => ?_)
        · first | trivial | ((try dsimp only); (exact ⟨(HV2.out.1.fresh BX).cell 0 rfl, (HV2.out.2.1.fresh BX).cell 1 rfl, (HV2.out.2.1.fresh BX).cell 2 rfl, (HV2.out.2.2.fresh BX).cell 1 rfl⟩))
        clear hK K hHeld0
        try go_frame
        refine htk 12 rfl ?_
        try go_frame
        refine htk 13 rfl ?_
        try go_frame
        refine htk 14 rfl ?_
        try go_frame
        refine htk 15 rfl ?_
        try go_frame
        refine wpAnyH_done (by kernel_rfl) ?_ _
        go_wp2_with fail
        go_meet
        exact ⟨_, _, _, rfl, rfl, rfl, ⟨fun _ h => absurd (HKK.out.symm.trans h) (by decide), fun _ h => absurd (HKK.out.symm.trans h) (by decide), by rw [if_neg]; rintro ⟨h, -⟩; exact absurd (HKK.out.symm.trans h) (by decide), hVb.out.trans (BX.mono hVs)⟩⟩
    have d1 : (c.kind == 1) = false := by simpa using k1
    clear k1
    by_cases k2 : c.kind = 2
    · have HKK := Lib.hid k2
      have d2 : (c.kind == 2) = true := by rw [k2]; rfl
      clear hV c1 c2 q0 k2
      go_wp2_with fail
      go_meet
      exact ⟨_, _, _, rfl, rfl, rfl, ⟨fun _ h => absurd (HKK.out.symm.trans h) (by decide), fun _ h => absurd (HKK.out.symm.trans h) (by decide), by rw [if_neg]; rintro ⟨h, -⟩; exact absurd (HKK.out.symm.trans h) (by decide), hVb.out⟩⟩
    have d2 : (c.kind == 2) = false := by simpa using k2
    clear k2
    by_cases k3 : c.kind = 3
    · have HKK := Lib.hid k3
      have d3 : (c.kind == 3) = true := by rw [k3]; rfl
      clear hV c1 q0 k3
      go_wp2_with fail
      go_meet
      exact ⟨_, _, _, rfl, rfl, rfl, ⟨fun _ h => absurd (HKK.out.symm.trans h) (by decide), fun _ h => absurd (HKK.out.symm.trans h) (by decide), by rw [if_neg]; rintro ⟨h, -⟩; exact absurd (HKK.out.symm.trans h) (by decide), hVb.out⟩⟩
    have d3 : (c.kind == 3) = false := by simpa using k3
    clear k3
    by_cases k4 : c.kind = 4
    · have HKK := Lib.hid k4
      have d4 : (c.kind == 4) = true := by rw [k4]; rfl
      clear k4
      have hct := ctFVal_any VA vc B 126 c.vals.length #[.pointer (some ⟨w.heap.size, 0, none⟩)] c.vals V (fun _ => True) rfl (H.out.2.1.below ((HW.out.2.2.trans (hV.mono (by omega))).mono hB)) (by omega) (by omega) egCell1
        (fun Z hZ x _ j0 j1 => cell1_any Z p w.heap.size s x.1 x.2 (HS.out.1.fresh hZ) ((HW.out.1.fresh hV).fresh hZ) j0 j1)
      have HC := Lib.hid hct; clear hct hV q0
      go_wp2_with fail
      refine HC.out.mono ?_
      rintro e w2 ⟨b, rfl, -, hb2⟩
      have H2 := Lib.hid (hVb.out.trans (hb2.mono hVs)); clear hb2 c0 c1 c2
      go_wp2_with fail
      go_meet
      exact ⟨_, _, _, rfl, rfl, rfl, ⟨fun _ h => absurd (HKK.out.symm.trans h) (by decide), fun h _ => by simpa using h, by rw [if_neg]; rintro ⟨h, -⟩; exact absurd (HKK.out.symm.trans h) (by decide), H2.out⟩⟩
    have d4 : (c.kind == 4) = false := by simpa using k4
    clear k4
    by_cases k5 : c.kind = 5
    · have HKK := Lib.hid k5
      have d5 : (c.kind == 5) = true := by rw [k5]; rfl
      clear hV q0 k5
      by_cases m0 : c.num = 0
      · have HM := Lib.hid m0
        rw [m0] at c1
        clear m0
        go_wp2_with fail
        refine (cwithin_any 0 0 2 _).mono ?_
        rintro e w2 ⟨rfl, rfl⟩
        go_wp2_with fail
        go_meet
        exact ⟨_, _, _, rfl, rfl, rfl, ⟨fun _ h => absurd (HKK.out.symm.trans h) (by decide), fun _ h => absurd (HKK.out.symm.trans h) (by decide), by rw [if_pos ⟨HKK.out, HM.out⟩], hVb.out⟩⟩
      · have d0 : (c.num == 0) = false := by simpa using m0
        have HM := Lib.hid m0
        clear m0
        go_wp2_with fail
        refine (cwithin_any c.num 0 2 _).mono ?_
        rintro e w2 ⟨rfl, rfl⟩
        go_wp2_with fail
        go_meet
        exact ⟨_, _, _, rfl, rfl, rfl, ⟨fun _ h => absurd (HKK.out.symm.trans h) (by decide), fun _ h => absurd (HKK.out.symm.trans h) (by decide), by rw [if_neg]; rintro ⟨-, h⟩; exact HM.out h, hVb.out⟩⟩
    have d5 : (c.kind == 5) = false := by simpa using k5
    clear k5
    by_cases k6 : c.kind = 6
    · have HKK := Lib.hid k6
      have d6 : (c.kind == 6) = true := by rw [k6]; rfl
      clear hV q0 c2 k6
      go_wp2_with fail
      refine (cwithin_any c.num (-1) 4 _).mono ?_
      rintro e w2 ⟨rfl, rfl⟩
      go_wp2_with fail
      go_meet
      exact ⟨_, _, _, rfl, rfl, rfl, ⟨fun _ h => absurd (HKK.out.symm.trans h) (by decide), fun _ h => absurd (HKK.out.symm.trans h) (by decide), by rw [if_neg]; rintro ⟨h, -⟩; exact absurd (HKK.out.symm.trans h) (by decide), hVb.out⟩⟩
    have d6 : (c.kind == 6) = false := by simpa using k6
    clear k6
    by_cases k7 : c.kind = 7
    · have HKK := Lib.hid k7
      have d7 : (c.kind == 7) = true := by rw [k7]; rfl
      clear c1 k7
      have hwk := clweak_any (.pointer (some ⟨p, 0, none⟩)) VA vc B c.vals.length c.vals V rfl (H.out.2.1.below ((HW.out.2.2.trans (hV.mono (by omega))).mono hB)) (by omega) (by omega)
      have HC := Lib.hid hwk; clear hwk hV
      go_wp2_with fail
      refine HC.out.mono ?_
      rintro e w2 ⟨b, rfl, hb, hb2⟩
      have H2 := Lib.hid (And.intro hb (hVb.out.trans (hb2.mono hVs))); clear hb hb2 c0 c2 q0
      go_wp2_with fail
      go_meet
      exact ⟨_, _, _, rfl, rfl, rfl, ⟨fun h _ => H2.out.1 h, fun _ h => absurd (HKK.out.symm.trans h) (by decide), by rw [if_neg]; rintro ⟨h, -⟩; exact absurd (HKK.out.symm.trans h) (by decide), H2.out.2⟩⟩
    have d7 : (c.kind == 7) = false := by simpa using k7
    clear k7 c1 c2 q0 hV
    go_wp2_with fail
    rw [← HP.out]
    exact ⟨false, rfl, fun h => (by cases h), HW.out.2.2.trans (hVb.out.mono (by omega))⟩
  case rest =>
    obtain ⟨bn, bv, fr, rfl, rfl, rfl, hk⟩ := hcut
    have hbc := hk.out.2.2.2
    have hbcs := hbc.size
    have c2 := (HW.out.2.1.fresh hbc).cell 2 (v := .slice VA c.vals.length vc) rfl
    have c3 := (HW.out.2.1.fresh hbc).cell 3 (v := .slice FA c.frames.length fc) rfl
    have q0 := (HW.out.1.fresh hbc).cell 0 (v := .pointer (some ⟨p, 0, none⟩)) rfl
    have hb0 := HW.out.2.2.trans (hbc.mono (by omega))
    have hfin : ∀ w', Below wc.heap.size wc w' → P (.returned (.bool false)) w' := by
      intro w' h'
      rw [← HP.out]
      exact ⟨false, rfl, fun h => (by cases h), hb0.trans (h'.mono hb0.size)⟩
    have HFN := Lib.hid hfin; clear hfin
    have HB := Lib.hid (And.intro hbc hb0); clear hbc hb0
    cases bn with
    | false =>
      clear c2 c3 q0
      go_wp2_with fail
      exact HFN.out _ (Below.refl _ _)
    | true =>
    cases bv with
    | false =>
      clear c2 c3 q0
      go_wp2_with fail
      exact HFN.out _ (Below.refl _ _)
    | true =>
    by_cases hfr : (c.frames.length : Int) = fr
    · have d1 : ((c.frames.length : Int) == fr) = true := by rw [hfr]; exact beq_self_eq_true fr
      have d2 : ((c.frames.length : Int) != fr) = false := by rw [hfr]; simp
      have hal := all_any' wc p B vc VA s c.vals (H.out.1.fresh HB.out.2) (H.out.2.1.below (HB.out.2.mono hB)) (by have := HB.out.2.size; omega) (by omega)
      have HA := Lib.hid (And.intro hal hfr); clear hal hfr
      go_wp2_with fail
      refine HA.out.1.mono ?_
      rintro e w2 ⟨b, rfl, hb, hb2⟩
      cases b with
      | false =>
        have H2 := Lib.hid hb2; clear hb hb2 c2 c3 q0
        go_wp2_with fail
        exact HFN.out _ H2.out
      | true =>
        have hs2' := hb2.size
        have hb20 := HB.out.2.trans (hb2.mono HB.out.2.size)
        have k3 := ((HW.out.2.1.fresh HB.out.1).fresh hb2).cell 3 (v := .slice FA c.frames.length fc) rfl
        have hq2 := (HW.out.1.fresh HB.out.1).fresh hb2
        have hct := ctFFrame_any FA fc B 130 c.frames.length #[.pointer (some ⟨w.heap.size, 0, none⟩)] c.frames w2 (fun f => (∀ v ∈ f.regs, fitsS s v) ∧ fitsS s f.self) rfl (H.out.2.2.below (hb20.mono hB)) (by have := hb20.size; omega) (by omega) egCell2
          (fun Z hZ x _ Av Af cv cf hAv hcv _ _ hI => cell2_any Z p w.heap.size B cv cf Av Af s x ((H.out.1.fresh hb20).fresh hZ) (hq2.fresh hZ) hAv hcv (by have := hb20.size; have := hZ.size; omega) hI.2.2.2.2.1 hI.2.2.2.2.2)
        have H2 := Lib.hid (And.intro hct (And.intro hb20 (hb rfl))); clear hct hb20 hb hb2 hq2 c2 c3 q0
        go_wp2_with fail
        refine H2.out.1.mono ?_
        rintro e w3 ⟨b, rfl, hb, hb3⟩
        have H3 := Lib.hid (And.intro hb (H2.out.2.1.trans (hb3.mono H2.out.2.1.size))); clear hb hb3 k3
        go_wp2_with fail
        rw [← HP.out]
        refine ⟨_, rfl, fun h => ⟨H2.out.2.2, H3.out.1 (by simpa using h), ?_, hk.out.1 (by simp), hk.out.2.1 (by simp)⟩, H3.out.2⟩
        have e1 := HA.out.2
        rw [hk.out.2.2.1] at e1
        split at e1 <;> split <;> first | omega | contradiction
    · have d1 : ((c.frames.length : Int) == fr) = false := by simpa using hfr
      have d2 : ((c.frames.length : Int) != fr) = true := by simpa using hfr
      clear hfr c2 q0
      go_wp2_with fail
      exact HFN.out _ (Below.refl _ _)
end Top
end Go.Proofs.YtdlcooplllimeaaGreatDoor

/- cells.Check: a state whose cells are called right has right cells. -/
namespace Go.Proofs.YtdlcooplllimeaaGreatDoor
open Go.RowKit

attribute [local go_sem ↓] Go.wp_at_zero Go.wp_at_succ

namespace Top
/-- a state's parts, where they lie -/
structure StP (w : World) (B : Nat) (s : Stt) (CA SA TA HA EA DA : Option Addr) (cc sc tc hc ec dc : Nat) : Prop where
  a1 : At w B CA s.cells
  a2 : At w B SA s.shapes
  a3 : At w B TA s.texts
  a4 : At w B HA s.threads
  a5 : At w B EA s.ends
  a6 : At w B DA s.said
  k1 : s.cells.length ≤ cc ∧ cc ≤ maxLen
  k2 : s.shapes.length ≤ sc ∧ sc ≤ maxLen
  k3 : s.texts.length ≤ tc ∧ tc ≤ maxLen
  k4 : s.threads.length ≤ hc ∧ hc ≤ maxLen
  k5 : s.ends.length ≤ ec ∧ ec ≤ maxLen
  k6 : s.said.length ≤ dc ∧ dc ≤ maxLen
section
variable {w w' : World} {B : Nat} {s : Stt} {CA SA TA HA EA DA : Option Addr} {cc sc tc hc ec dc : Nat}
theorem StP.below (h : StP w B s CA SA TA HA EA DA cc sc tc hc ec dc) (hb : Below B w w') : StP w' B s CA SA TA HA EA DA cc sc tc hc ec dc :=
  ⟨h.a1.below hb, h.a2.below hb, h.a3.below hb, h.a4.below hb, h.a5.below hb, h.a6.below hb, h.k1, h.k2, h.k3, h.k4, h.k5, h.k6⟩
theorem StP.stA (h : StP w B s CA SA TA HA EA DA cc sc tc hc ec dc) {p : Nat} (hp : Blk w p 32 #[.slice CA s.cells.length cc, .slice SA s.shapes.length sc, .slice TA s.texts.length tc, .slice HA s.threads.length hc, .slice EA s.ends.length ec, .slice DA s.said.length dc, .int .i64 s.asked, .int .i64 s.steps]) (hB : B ≤ w.heap.size) : StA w p s :=
  ⟨CA, SA, TA, HA, EA, DA, cc, sc, tc, hc, ec, dc, hp, h.a1.more hB, h.a2.more hB, h.a3.more hB, h.a4.more hB, h.a5.more hB, h.a6.more hB⟩
theorem StP.cap (h : StP w B s CA SA TA HA EA DA cc sc tc hc ec dc) {p : Nat} (hp : Blk w p 32 #[.slice CA s.cells.length cc, .slice SA s.shapes.length sc, .slice TA s.texts.length tc, .slice HA s.threads.length hc, .slice EA s.ends.length ec, .slice DA s.said.length dc, .int .i64 s.asked, .int .i64 s.steps]) : ShCap w p := by
  intro A n c hc'
  have := hp.cell 1 (v := .slice SA s.shapes.length sc) rfl
  rw [this] at hc'
  injection hc' with hc'
  injection hc' with _ h2 h3
  rw [← h2, ← h3]; exact h.k2
end
theorem egCk1 : ∀ args w, (callFunc 75 args).run Tryz.prog w = .ok (.enter 75 args) w := fun _ _ => by kernel_rfl
theorem egCk2 : ∀ args w, (callFunc 77 args).run Tryz.prog w = .ok (.enter 77 args) w := fun _ _ => by kernel_rfl
theorem egCk3 : ∀ args w, (callFunc 80 args).run Tryz.prog w = .ok (.enter 80 args) w := fun _ _ => by kernel_rfl
theorem egCk4 : ∀ args w, (callFunc 83 args).run Tryz.prog w = .ok (.enter 83 args) w := fun _ _ => by kernel_rfl
set_option maxRecDepth 100000 in
theorem clck1_any (w : World) (p : Nat) (s : Stt) (a b : Int) (h : StA w p s) :
    Calls Tryz.prog 75 #[.agg #[.int .i64 a, .int .i64 b], .pointer (some ⟨p, 0, none⟩)] w fun e w' => ∃ b : Bool, e = .returned (.bool b) ∧ (b = false → True) ∧ Below w.heap.size w w' := by
  have hplt := h.lt
  obtain ⟨CA, SA, TA, HA, EA, DA, cc, sc, tc, hc, ec, dc, h1, -⟩ := h
  have g2 := h1.cell 2 (v := .slice TA s.texts.length tc) rfl
  have HB := Lib.hid (fun o => (Below.refl w.heap.size w).alloc (Nat.le_refl _) o); clear h1
  go_enter Tryz.func75, Tryz.ntmps75
  go_wp2_with fail
  go_returns
  exact ⟨_, rfl, fun _ => trivial, HB.out _⟩
set_option maxRecDepth 100000 in
theorem clck2_any (w : World) (p B vc fc : Nat) (VA FA : Option Addr) (s : Stt) (c : Ce) (h : StA w p s) (hV : At w B VA c.vals) (hvc : c.vals.length ≤ vc ∧ vc ≤ maxLen) (hF : At w B FA c.frames) (hfc : c.frames.length ≤ fc ∧ fc ≤ maxLen) (hB : B ≤ w.heap.size) (hs1 : c.vals.length ≤ 600) (hs2 : s.cells.length ≤ 300) (hs3 : ShCap w p) :
    Calls Tryz.prog 77 #[.agg #[.int .i64 c.kind, .int .i64 c.num, .slice VA c.vals.length vc, .slice FA c.frames.length fc], .pointer (some ⟨p, 0, none⟩)] w fun e w' => ∃ b : Bool, e = .returned (.bool b) ∧ (b = false → CeOk s c) ∧ Below w.heap.size w w' := by
  have hplt := h.lt
  have hb0 : Below w.heap.size w (w.alloc (.cells #[.int .i64 c.kind, .int .i64 c.num, .slice VA c.vals.length vc, .slice FA c.frames.length fc] 46)) := (Below.refl _ _).alloc (Nat.le_refl _) _
  have hc := cell_any _ p B vc fc VA FA s c (h.fresh hb0) (hV.below (hb0.mono hB)) hvc (hF.below (hb0.mono hB)) hfc (by simp; omega) hs1 hs2 (hs3.fresh hplt hb0)
  have H := Lib.hid (And.intro hc hb0); clear hc hb0 h hV hF hs3
  go_enter Tryz.func77, Tryz.ntmps77
  go_wp2_with fail
  refine H.out.1.mono ?_
  rintro e w1 ⟨b, rfl, hb, hb1⟩
  have HB := Lib.hid (And.intro hb hb1); clear hb hb1
  go_wp2_with fail
  go_returns
  exact ⟨_, rfl, fun h => HB.out.1 (by simpa using h), H.out.2.trans (HB.out.2.mono (by simp))⟩
set_option maxRecDepth 100000 in
theorem clck3_any (w : World) (p : Nat) (s : Stt) (k n : Int) (h : StA w p s) (hk : I64 k) (hn : I64 n) :
    Calls Tryz.prog 80 #[.agg #[.int .i64 k, .int .i64 n], .pointer (some ⟨p, 0, none⟩)] w fun e w' => ∃ b : Bool, e = .returned (.bool b) ∧ (b = false → True) ∧ Below w.heap.size w w' := by
  have hb0 : Below w.heap.size w (w.alloc (.cells #[.int .i64 k, .int .i64 n] 48)) := (Below.refl _ _).alloc (Nat.le_refl _) _
  have hf := fits_any _ p s k n (h.fresh hb0) hk hn
  have H := Lib.hid (And.intro hf hb0); clear hf hb0 h hk hn
  by_cases h4 : k = 4
  · subst h4
    go_enter Tryz.func80, Tryz.ntmps80
    go_wp2_with fail
    refine H.out.1.mono ?_
    rintro e w1 ⟨b, rfl, -, hb1⟩
    have HB := Lib.hid hb1; clear hb1
    go_wp2_with fail
    go_returns
    exact ⟨_, rfl, fun _ => trivial, H.out.2.trans (HB.out.mono (by simp))⟩
  · have d4 : (k == 4) = false := by simpa using h4
    have d5 : (k != 4) = true := by simpa using h4
    clear h4
    go_enter Tryz.func80, Tryz.ntmps80
    go_wp2_with fail
    go_returns
    exact ⟨_, rfl, fun _ => trivial, H.out.2⟩
set_option maxRecDepth 100000 in
theorem clck4_any (w : World) (p : Nat) (s : Stt) (x : En) (h : StA w p s) (hs : s.cells.length ≤ 300) (h1 : I64 x.fn.1) (h2 : I64 x.fn.2) :
    Calls Tryz.prog 83 #[.agg #[.int .i64 x.cell, .int .i64 x.fn.1, .int .i64 x.fn.2], .pointer (some ⟨p, 0, none⟩)] w fun e w' => ∃ b : Bool, e = .returned (.bool b) ∧ (b = false → fitsS s x.fn) ∧ Below w.heap.size w w' := by
  have hplt := h.lt
  have hb0 : Below w.heap.size w (w.alloc (.cells #[.int .i64 x.cell, .int .i64 x.fn.1, .int .i64 x.fn.2] 127)) := (Below.refl _ _).alloc (Nat.le_refl _) _
  have hi := is_any _ p s x.fn.1 x.fn.2 4 (h.fresh hb0) h1 h2
  have hS := h
  obtain ⟨CA, SA, TA, HA, EA, DA, cc, sc, tc, hc, ec, dc, k1, -⟩ := h
  have g0 := k1.cell 0 (v := .slice CA s.cells.length cc) rfl
  have hw : IntKind.i64.wrap ((s.cells.length : Int) - 1) = (s.cells.length : Int) - 1 := IntWalk.i64_in _ (by omega)
  have H := Lib.hid (And.intro hi hb0); clear hi hb0 hS k1 h1 h2
  by_cases c1 : 0 ≤ x.cell
  · by_cases c2 : x.cell ≤ (s.cells.length : Int) - 1
    · have d1 : decide (0 ≤ x.cell) = true := decide_eq_true c1
      have d2 : decide (x.cell ≤ (s.cells.length : Int) - 1) = true := decide_eq_true c2
      clear c1 c2
      go_enter Tryz.func83, Tryz.ntmps83
      go_wp2_with fail
      refine (cwithin_any x.cell 0 ((s.cells.length : Int) - 1) _).mono ?_
      rintro e w1 ⟨rfl, rfl⟩
      rw [d1, d2]
      go_wp2_with fail
      refine H.out.1.mono ?_
      rintro e w1 ⟨b, rfl, hb, hb1⟩
      have HB := Lib.hid (And.intro hb hb1); clear hb hb1
      go_wp2_with fail
      go_returns
      exact ⟨_, rfl, fun h => HB.out.1 (by simpa using h), H.out.2.trans (HB.out.2.mono (by simp))⟩
    · have d1 : decide (0 ≤ x.cell) = true := decide_eq_true c1
      have d2 : decide (x.cell ≤ (s.cells.length : Int) - 1) = false := decide_eq_false c2
      clear c1 c2
      go_enter Tryz.func83, Tryz.ntmps83
      go_wp2_with fail
      refine (cwithin_any x.cell 0 ((s.cells.length : Int) - 1) _).mono ?_
      rintro e w1 ⟨rfl, rfl⟩
      rw [d1, d2]
      go_wp2_with fail
      go_returns
      exact ⟨_, rfl, fun h => (by cases h), H.out.2⟩
  · have d1 : decide (0 ≤ x.cell) = false := decide_eq_false c1
    clear c1
    go_enter Tryz.func83, Tryz.ntmps83
    go_wp2_with fail
    refine (cwithin_any x.cell 0 ((s.cells.length : Int) - 1) _).mono ?_
    rintro e w1 ⟨rfl, rfl⟩
    rw [d1]
    go_wp2_with fail
    go_returns
    exact ⟨_, rfl, fun h => (by cases h), H.out.2⟩
end Top
end Go.Proofs.YtdlcooplllimeaaGreatDoor

/- The top laws' own words: what a state has from outside. -/
namespace Go.Proofs.YtdlcooplllimeaaGreatDoor
open Go.RowKit

attribute [local go_sem ↓] Go.wp_at_zero Go.wp_at_succ

namespace Top
theorem rfs_i64 {l : List (Int × Int)} (h : ∀ x ∈ l, Flat.ok x) : ∀ k ∈ rfs l, I64 k := fun _k hk => (h _ (mem_rfs.1 hk)).2
theorem gens_take {l : List Fr} {k : Nat} {x : Fr} (hx : l[k]? = some x) : gens (l.take (k + 1)) = gens (l.take k) ++ (if 0 ≤ x.gen then [x.gen] else []) := by
  unfold gens
  rw [List.take_add_one, hx, List.filter_append, List.map_append]
  congr 1
  by_cases h : 0 ≤ x.gen <;> simp [h]
theorem gens_len (l : List Fr) (j : Nat) : (gens (l.take j)).length ≤ (gens l).length := by
  have e : gens l = gens (l.take j) ++ gens (l.drop j) := by unfold gens; rw [← List.map_append, ← List.filter_append, List.take_append_drop]
  rw [e, List.length_append]; omega
/-- what lies ahead, thread by thread -/
def thUp (s : Stt) (k : Nat) : List Int := (s.threads.take k).flatMap thRefs
theorem thUp_next {s : Stt} {k : Nat} {x : Th} (hx : s.threads[k]? = some x) : thUp s (k + 1) = thUp s k ++ thRefs x := by
  unfold thUp
  rw [List.take_add_one, hx, List.flatMap_append]
  simp
theorem thUp_len (s : Stt) (k : Nat) : (thUp s k).length ≤ (roots s).length := by
  unfold thUp roots
  have e : s.threads.flatMap thRefs = (s.threads.take k).flatMap thRefs ++ (s.threads.drop k).flatMap thRefs := by rw [← List.flatMap_append, List.take_append_drop]
  rw [e, List.length_append, List.length_append]; omega
def enUp (s : Stt) (k : Nat) : List Int := s.threads.flatMap thRefs ++ (s.ends.take k).flatMap fun e => rfs [e.fn]
theorem enUp_next {s : Stt} {k : Nat} {x : En} (hx : s.ends[k]? = some x) : enUp s (k + 1) = enUp s k ++ rfs [x.fn] := by
  unfold enUp
  rw [List.take_add_one, hx, List.flatMap_append]
  simp
theorem enUp_len (s : Stt) (k : Nat) : (enUp s k).length ≤ (roots s).length := by
  unfold enUp roots
  have e : (s.ends.flatMap fun e => rfs [e.fn]) = ((s.ends.take k).flatMap fun e => rfs [e.fn]) ++ ((s.ends.drop k).flatMap fun e => rfs [e.fn]) := by rw [← List.flatMap_append, List.take_append_drop]
  rw [e, List.length_append, List.length_append, List.length_append]; omega
structure RM (w0 : World) (T0 : Nat) (TB : Array Value) (A1 : Option Addr) (c1 : Nat) (o1 : List Int) (A2 : Option Addr) (c2 : Nat) (l : List (Int × Int)) (X : Option Addr) (BX : Nat) (v : Int × Int) (m : World) : Prop where
  T : Blk m T0 98 TB
  F : Own m w0.heap.size 48 A2 c2 l
  ok : ∀ x ∈ l, Flat.ok x
  neF : rowOf A2 ≠ some T0
  X : At m BX X [v]
  O : Own m w0.heap.size 3 A1 c1 o1
  b : Below w0.heap.size w0 m
structure RE (w0 : World) (T0 : Nat) (TB : Array Value) (A : Option Addr) (c : Nat) (o : List Int) (m : World) : Prop where
  T : Blk m T0 98 TB
  O : Own m w0.heap.size 3 A c o
  ok : ∀ z ∈ o, I64 z
  b : Below w0.heap.size w0 m
theorem RE.fresh {w0 m m' : World} {T0 : Nat} {TB : Array Value} {A : Option Addr} {c : Nat} {o : List Int} (h : RE w0 T0 TB A c o m) (hb : Below m.heap.size m m') : RE w0 T0 TB A c o m' := ⟨h.T.fresh hb, h.O.fresh hb, h.ok, h.b.trans (hb.mono h.b.size)⟩
theorem RE.app {w0 m m' : World} {T0 : Nat} {TB : Array Value} {A A' : Option Addr} {c c' : Nat} {o r : List Int} (h : RE w0 T0 TB A c o m) (ho : Own m' w0.heap.size 3 A' c' (o ++ r)) (hg : m.grownBy m' (rowOf A)) (hr : ∀ z ∈ r, I64 z) : RE w0 T0 TB A' c' (o ++ r) m' :=
  ⟨h.T.grown hg (own_ne_ty h.O h.T (by decide)), ho, fun z hz => (List.mem_append.1 hz).elim (h.ok z) (hr z), h.b.grown hg h.b.size (fun g hg' => (h.O.lt g hg').1)⟩
def RootsPost (s : Stt) (w : World) (e : Ending) (w' : World) : Prop := ∃ A' c', e = .returned (.slice A' (roots s).length c') ∧ Own w' w.heap.size 3 A' c' (roots s) ∧ (∀ k ∈ roots s, I64 k) ∧ Below w.heap.size w w'
set_option maxHeartbeats 3200000 in
set_option maxRecDepth 100000 in
theorem rRoots_any (B cc sc tc hc ec dc : Nat) (CA SA TA HA EA DA : Option Addr) (s : Stt) (w : World) (h : StP w B s CA SA TA HA EA DA cc sc tc hc ec dc) (hB : B ≤ w.heap.size)
    (hl1 : ∀ t ∈ s.threads, (frVals t.frames).length + 1 ≤ 1073741824) (hl2 : (roots s).length ≤ 1073741824) (hl3 : s.threads.length ≤ 1073741824 ∧ s.ends.length ≤ 1073741824) :
    Calls Tryz.prog 21 #[.agg #[.slice CA s.cells.length cc, .slice SA s.shapes.length sc, .slice TA s.texts.length tc, .slice HA s.threads.length hc, .slice EA s.ends.length ec, .slice DA s.said.length dc, .int .i64 s.asked, .int .i64 s.steps]] w (RootsPost s w) := by
  obtain ⟨P, hP⟩ : ∃ P, RootsPost s w = P := ⟨_, rfl⟩
  have HP := Lib.hid hP; rw [hP]; clear hP
  obtain ⟨i0, hi, hz0, hz1, hz2⟩ := info_parts infoVal
  obtain ⟨j0, hj, hy0, hy1, hy2⟩ := info_parts infoInt
  have hup := fun k => thUp_len s k
  have hue := fun k => enUp_len s k
  have H := Lib.hid (And.intro (h) (And.intro (hl1) (And.intro (hl2) (And.intro (hup) (hue)))))
  clear h hl1 hl2 hup hue
  go_enter Tryz.func21, Tryz.ntmps21
  go_upto_region 1 with fail
  refine wp_world (fun W => Blk W w.heap.size 32 #[.slice CA s.cells.length cc, .slice SA s.shapes.length sc, .slice TA s.texts.length tc, .slice HA s.threads.length hc, .slice EA s.ends.length ec, .slice DA s.said.length dc, .int .i64 s.asked, .int .i64 s.steps] ∧ Below w.heap.size w W ∧ w.heap.size + 1 ≤ W.heap.size) ⟨Blk.new _ _ _, (Below.refl _ _).alloc (Nat.le_refl _) _, by simp⟩ ?_
  rintro W ⟨hSt, hbW, hsW⟩
  have s3 := hSt.cell 3 (v := .slice HA s.threads.length hc) rfl
  have HW := Lib.hid (And.intro (hSt) (hbW))
  clear hSt hbW
  go_wp2_with fail
  clear s3
  go_loopg [3, 13] (s.threads.length) (fun gk ov iv wr => ∃ (k : Nat) (A1 : Option Addr) (c1 : Nat) (o1 : List Int), k ≤ s.threads.length ∧ gk = s.threads.length - k ∧ iv = .int .i64 k ∧ ov = .slice A1 o1.length c1 ∧ Hid (o1 = thUp s k ∧ Own wr W.heap.size 3 A1 c1 o1 ∧ (∀ z ∈ o1, I64 z)) ∧ Below W.heap.size W wr)
  case atStart => exact ⟨0, none, 0, [], Nat.zero_le _, rfl, rfl, rfl, ⟨rfl, Own.nil_, fun z hz => by cases hz⟩, Below.refl _ _⟩
  case round =>
    obtain ⟨k, A1, c1, o1, hk, rfl, rfl, rfl, hkeep, hbl⟩ := hrel
    have hsz := hbl.size
    by_cases hlt : k < s.threads.length
    · obtain ⟨b, o, x, FA, fc, rfl, hb, hx, c0, c1', c2, c3, c4, aF, lF, k2, k3, k4, k5⟩ := (H.out.1.a4.below ((HW.out.2.trans (hbl.mono (by omega))).mono hB)).th_ hlt
      have hxm := List.mem_of_getElem? hx
      have hnx := thUp_next hx
      have hp1 := H.out.2.2.2.1 (k + 1)
      have hfl := H.out.2.1 x hxm
      have hl2 := H.out.2.2.1
      have hfl2 := frVals_ge x.frames
      have hk0 : (0 : Int) ≤ (k : Int) := by omega
      have hk1 : (k : Int) < (s.threads.length : Int) := by omega
      go_upto_region 5 with fail
      refine wp_world (fun U => Blk U wr.heap.size 98 #[.slice FA x.frames.length fc, .int .i64 x.state, .int .i64 x.on, .int .i64 x.val.1, .int .i64 x.val.2] ∧ Below wr.heap.size wr U ∧ wr.heap.size + 1 ≤ U.heap.size) ⟨Blk.new _ _ _, (Below.refl _ _).alloc (Nat.le_refl _) _, by simp⟩ ?_
      rintro U ⟨hT, hbU, hsU⟩
      replace hT : Blk U.drew wr.heap.size 98 _ := hT
      have hlt : wr.heap.size < U.drew.heap.size := by show wr.heap.size < U.heap.size; omega
      have hBd : B ≤ U.drew.heap.size := by show B ≤ U.heap.size; omega
      have hbd : Below W.heap.size W U.drew := (hbl.trans (hbU.mono (by omega))).drew
      have hOd : Own U.drew W.heap.size 3 A1 c1 o1 := hkeep.out.2.1.fresh hbU.drew
      have aFd : At U.drew B FA x.frames := aF.below (hbU.drew.mono (by omega))
      have u0 := hT.cell 0 (v := .slice FA x.frames.length fc) rfl
      have u3 := hT.cell 3 (v := .int .i64 x.val.1) rfl
      have u4 := hT.cell 4 (v := .int .i64 x.val.2) rfl
      have hu1 : ∀ o, (U.drew.alloc o).heap.size = U.drew.heap.size + 1 := fun o => World.size_alloc _ o
      rw [hnx, List.length_append] at hp1
      have htr : thRefs x = rfs (frVals x.frames ++ [x.val]) ++ (if x.state = 1 then [x.on] else []) ++ gens x.frames := rfl
      have hp2 := hp1
      rw [htr, List.length_append, List.length_append] at hp2
      have ho1l : o1.length ≤ (thUp s k).length := by rw [hkeep.out.1]; exact Nat.le_refl _
      have hW1 : W.heap.size ≤ U.drew.heap.size := by show W.heap.size ≤ U.heap.size; omega
      have HC := Lib.hid (And.intro (hT) (And.intro (hbd) (And.intro (hOd) (And.intro (aFd) (And.intro (hkeep.out) (And.intro (hu1) (And.intro (htr) (And.intro (hnx) ((And.intro k2 (And.intro k3 (And.intro k4 k5))))))))))))
      clear hT hbd hOd aFd hkeep hu1 htr hnx k2 k3 k4 k5 hbl hbU aF hx hxm c0 c1' c2 c3 c4
      have aW : At W B FA x.frames := HC.out.2.2.2.1.keep (fun p hp => (Below.cells (HC.out.2.1.mono (show B ≤ W.heap.size by omega)) p hp).symm)
      have HAW := Lib.hid aW; clear aW
      have hokv : Flat.ok x.val := ⟨HC.out.2.2.2.2.2.2.2.2.2.2.1, HC.out.2.2.2.2.2.2.2.2.2.2.2⟩
      go_cut [3] from 17 to 26 (fun v3 W2 => ∃ (A5 : Option Addr) (c5 : Nat) (o5 : List Int), v3 = .slice A5 o5.length c5 ∧ Hid (o5 = o1 ++ rfs (frVals x.frames ++ [x.val]) ∧ RE W wr.heap.size #[.slice FA x.frames.length fc, .int .i64 x.state, .int .i64 x.on, .int .i64 x.val.1, .int .i64 x.val.2] A5 c5 o5 W2))
      case first =>
        refine wp_region_held_drew (S := (fun w' => w'.cell? ⟨wr.heap.size, 0, none⟩ = some (.slice FA x.frames.length fc) ∧ w'.cell? ⟨wr.heap.size, 3, none⟩ = some (.int .i64 x.val.1) ∧ w'.cell? ⟨wr.heap.size, 4, none⟩ = some (.int .i64 x.val.2))) (by kernel_rfl) ?_ (fun hHeld0 => ?_)
        · first | trivial | ((try dsimp only); (exact ⟨u0, u3, u4⟩))
        refine htk 0 rfl ?_
        try go_frame
        refine htk 1 rfl ?_
        try go_frame
        refine htk 2 rfl ?_
        try go_frame
        refine htk 4 rfl ?_
        try go_frame
        refine htk 5 rfl ?_
        try go_frame
        refine held_call2 3 6 (by kernel_rfl) rfl rfl (fun K hK => ?_) (fun K hK => ?_)
        · go_simp
          go_at_call 57; refine (rFrames_any FA fc B x.frames.length x.frames U.drew rfl HC.out.2.2.2.1 hBd (by omega)).mono ?_; rintro e w1 ⟨A2, c2, rfl, hoF, hokF, hb1⟩; have hs1 := hb1.size; have T1 := HC.out.1.fresh hb1; have HM : RM W wr.heap.size #[.slice FA x.frames.length fc, .int .i64 x.state, .int .i64 x.on, .int .i64 x.val.1, .int .i64 x.val.2] A1 c1 o1 A2 c2 (frVals x.frames) (some ⟨w1.heap.size, 0, none⟩) (w1.heap.size + 1) x.val (w1.alloc (.cells #[.int .i64 x.val.1, .int .i64 x.val.2] 48)) := ⟨T1.alloc _, (hoF.base_le hW1).alloc _, hokF, own_ne_blk hoF hlt, At.built w1 _ _ [x.val] rfl (by intro z hz; simp at hz; subst hz; exact hokv), (HC.out.2.2.1.fresh hb1).alloc _, (HC.out.2.1.trans (hb1.mono hW1)).alloc (Nat.le_trans hW1 hs1) _⟩
          try (go_wp2_with fail)
          refine hK.out _ _ ?_ (fun hHeld1 => ?_)
          · first | trivial | ((try dsimp only); (exact ⟨T1.cell 0 rfl, T1.cell 3 rfl, T1.cell 4 rfl⟩))
          clear hK K hHeld0
          try go_frame
          refine held_call 6 (by kernel_rfl) rfl (fun K hK => ?_)
          go_simp
          refine hK.out _ _ ?_ (fun hHeld2 => ?_)
          · first | trivial | ((try dsimp only); (exact ⟨HM.T.cell 0 rfl, HM.T.cell 3 rfl, HM.T.cell 4 rfl⟩))
          clear hK K hHeld1
          try go_frame
          refine held_call 7 (by kernel_rfl) rfl (fun K hK => ?_)
          refine step_app (α := Int × Int) (n := (frVals x.frames).length) (m := 1) (nm := (frVals x.frames).length + 1) (r := [x.val]) (by rfl) (.tmp 20) (.tmp 23) _ (by rfl) W.heap.size 48 i0 _ 16 Tryz.underlying23 hi hz0 hz1 hz2 rfl (by decide) pair_oneT (by rfl) rfl HM.F (by rfl) HM.X rfl rfl (by omega) (by simp only [maxLen]; omega) HM.b.size ?_; intro A3 c3 w3 hown3 hgr3 hat3; have T3 := HM.T.grown hgr3 HM.neF; have O3 := HM.O.grown hgr3 (fun g hg e => own_own_ty HM.O HM.F (by decide) g hg e); have b3 : Below W.heap.size W w3 := HM.b.grown hgr3 HM.b.size (fun g hg => (HM.F.lt g hg).1); have hok3 : ∀ z ∈ frVals x.frames ++ [x.val], Flat.ok z := (fun z hz => (List.mem_append.1 hz).elim (HM.ok z) (fun h => by simp at h; subst h; exact hokv)); have hrr := rRefs_any A3 c3 w3.heap.size ((frVals x.frames).length + 1) (frVals x.frames ++ [x.val]) w3 (by simp) (hown3.at_ hok3) (Nat.le_refl _) (by omega); have HR3 := Lib.hid (And.intro hrr (And.intro T3 (And.intro O3 (And.intro b3 hok3)))); clear hrr O3 b3 hok3 hown3 hgr3 hat3
          refine hK.out _ _ ?_ (fun hHeld3 => ?_)
          · first | trivial | ((try dsimp only); (exact ⟨T3.cell 0 rfl, T3.cell 3 rfl, T3.cell 4 rfl⟩))
          clear hK K hHeld2
          try go_frame
          refine held_call 8 (by kernel_rfl) rfl (fun K hK => ?_)
          go_simp
          go_at_call 22; refine HR3.out.1.mono ?_; rintro e w4 ⟨A4, c4, rfl, ho4, hb4⟩; have T4 := HR3.out.2.1.fresh hb4; have HRE : RE W wr.heap.size #[.slice FA x.frames.length fc, .int .i64 x.state, .int .i64 x.on, .int .i64 x.val.1, .int .i64 x.val.2] A1 c1 o1 w4 := ⟨T4, HR3.out.2.2.1.fresh hb4, HC.out.2.2.2.2.1.2.2, HR3.out.2.2.2.1.trans (hb4.mono HR3.out.2.2.2.1.size)⟩; have hok4 := rfs_i64 HR3.out.2.2.2.2; have hat4 := ho4.at_ hok4
          try (go_wp2_with fail)
          refine hK.out _ _ ?_ (fun hHeld4 => ?_)
          · first | trivial | ((try dsimp only); (exact ⟨T4.cell 0 rfl, T4.cell 3 rfl, T4.cell 4 rfl⟩))
          clear hK K hHeld3
          try go_frame
          refine held_call 9 (by kernel_rfl) rfl (fun K hK => ?_)
          refine step_app (α := Int) (n := o1.length) (m := (rfs (frVals x.frames ++ [x.val])).length) (nm := o1.length + (rfs (frVals x.frames ++ [x.val])).length) (r := rfs (frVals x.frames ++ [x.val])) (by rfl) (.tmp 17) (.tmp 25) _ (by rfl) W.heap.size 3 j0 _ 8 Tryz.underlying34 hj hy0 hy1 hy2 rfl (by decide) int_one (by rfl) rfl HRE.O (by rfl) hat4 rfl rfl (by omega) (by simp only [maxLen]; omega) HRE.b.size ?_; intro A5 c5 w5 hown5 hgr5 hat5; have HRE5 := HRE.app hown5 hgr5 hok4; have T5 := HRE5.T
          refine hK.out _ _ ?_ (fun hHeld5 => ?_)
          · first | trivial | ((try dsimp only); (exact ⟨T5.cell 0 rfl, T5.cell 3 rfl, T5.cell 4 rfl⟩))
          clear hK K hHeld4
          try go_frame
          refine htk 10 rfl ?_
          try go_frame
          refine wpAnyH_done (by kernel_rfl) ?_ _
          go_wp2_with fail
          go_meet
          exact ⟨A5, c5, _, by rw [List.length_append], ⟨rfl, HRE5⟩⟩
        · go_simp
          have T1 := HC.out.1.alloc (.cells #[.int .i64 x.val.1, .int .i64 x.val.2] 48); have hbv : Below U.drew.heap.size U.drew (U.drew.alloc (.cells #[.int .i64 x.val.1, .int .i64 x.val.2] 48)) := (Below.refl _ _).alloc (Nat.le_refl _) _; have hfr1 := rFrames_any FA fc B x.frames.length x.frames (U.drew.alloc (.cells #[.int .i64 x.val.1, .int .i64 x.val.2] 48)) rfl (HC.out.2.2.2.1.below (hbv.mono hBd)) (Nat.le_trans hBd hbv.size) (by omega); have HX1 := Lib.hid (And.intro hfr1 (And.intro hbv (At.built U.drew #[.int .i64 x.val.1, .int .i64 x.val.2] 48 [x.val] rfl (by intro z hz; simp at hz; subst hz; exact hokv)))); clear hfr1 hbv
          refine hK.out _ _ ?_ (fun hHeld1 => ?_)
          · first | trivial | ((try dsimp only); (exact ⟨T1.cell 0 rfl, T1.cell 3 rfl, T1.cell 4 rfl⟩))
          clear hK K hHeld0
          try go_frame
          refine held_call 3 (by kernel_rfl) rfl (fun K hK => ?_)
          go_simp
          go_at_call 57; refine HX1.out.1.mono ?_; rintro e w2 ⟨A2, c2, rfl, hoF, hokF, hb2⟩; have T2 := T1.fresh hb2; have hs2 := hb2.size; have hs3 := HX1.out.2.1.size; have HM : RM W wr.heap.size #[.slice FA x.frames.length fc, .int .i64 x.state, .int .i64 x.on, .int .i64 x.val.1, .int .i64 x.val.2] A1 c1 o1 A2 c2 (frVals x.frames) (some ⟨U.drew.heap.size, 0, none⟩) (U.drew.heap.size + 1) x.val w2 := ⟨T2, hoF.base_le (Nat.le_trans hW1 hs3), hokF, own_ne_blk hoF (Nat.lt_of_lt_of_le hlt hs3), HX1.out.2.2.below (hb2.mono (Nat.le_of_eq (World.size_alloc _ _).symm)), (HC.out.2.2.1.alloc _).fresh hb2, (HC.out.2.1.alloc hW1 _).trans (hb2.mono (Nat.le_trans hW1 hs3))⟩
          try (go_wp2_with fail)
          refine hK.out _ _ ?_ (fun hHeld2 => ?_)
          · first | trivial | ((try dsimp only); (exact ⟨T2.cell 0 rfl, T2.cell 3 rfl, T2.cell 4 rfl⟩))
          clear hK K hHeld1
          try go_frame
          refine held_call 7 (by kernel_rfl) rfl (fun K hK => ?_)
          refine step_app (α := Int × Int) (n := (frVals x.frames).length) (m := 1) (nm := (frVals x.frames).length + 1) (r := [x.val]) (by rfl) (.tmp 20) (.tmp 23) _ (by rfl) W.heap.size 48 i0 _ 16 Tryz.underlying23 hi hz0 hz1 hz2 rfl (by decide) pair_oneT (by rfl) rfl HM.F (by rfl) HM.X rfl rfl (by omega) (by simp only [maxLen]; omega) HM.b.size ?_; intro A3 c3 w3 hown3 hgr3 hat3; have T3 := HM.T.grown hgr3 HM.neF; have O3 := HM.O.grown hgr3 (fun g hg e => own_own_ty HM.O HM.F (by decide) g hg e); have b3 : Below W.heap.size W w3 := HM.b.grown hgr3 HM.b.size (fun g hg => (HM.F.lt g hg).1); have hok3 : ∀ z ∈ frVals x.frames ++ [x.val], Flat.ok z := (fun z hz => (List.mem_append.1 hz).elim (HM.ok z) (fun h => by simp at h; subst h; exact hokv)); have hrr := rRefs_any A3 c3 w3.heap.size ((frVals x.frames).length + 1) (frVals x.frames ++ [x.val]) w3 (by simp) (hown3.at_ hok3) (Nat.le_refl _) (by omega); have HR3 := Lib.hid (And.intro hrr (And.intro T3 (And.intro O3 (And.intro b3 hok3)))); clear hrr O3 b3 hok3 hown3 hgr3 hat3
          refine hK.out _ _ ?_ (fun hHeld3 => ?_)
          · first | trivial | ((try dsimp only); (exact ⟨T3.cell 0 rfl, T3.cell 3 rfl, T3.cell 4 rfl⟩))
          clear hK K hHeld2
          try go_frame
          refine held_call 8 (by kernel_rfl) rfl (fun K hK => ?_)
          go_simp
          go_at_call 22; refine HR3.out.1.mono ?_; rintro e w4 ⟨A4, c4, rfl, ho4, hb4⟩; have T4 := HR3.out.2.1.fresh hb4; have HRE : RE W wr.heap.size #[.slice FA x.frames.length fc, .int .i64 x.state, .int .i64 x.on, .int .i64 x.val.1, .int .i64 x.val.2] A1 c1 o1 w4 := ⟨T4, HR3.out.2.2.1.fresh hb4, HC.out.2.2.2.2.1.2.2, HR3.out.2.2.2.1.trans (hb4.mono HR3.out.2.2.2.1.size)⟩; have hok4 := rfs_i64 HR3.out.2.2.2.2; have hat4 := ho4.at_ hok4
          try (go_wp2_with fail)
          refine hK.out _ _ ?_ (fun hHeld4 => ?_)
          · first | trivial | ((try dsimp only); (exact ⟨T4.cell 0 rfl, T4.cell 3 rfl, T4.cell 4 rfl⟩))
          clear hK K hHeld3
          try go_frame
          refine held_call 9 (by kernel_rfl) rfl (fun K hK => ?_)
          refine step_app (α := Int) (n := o1.length) (m := (rfs (frVals x.frames ++ [x.val])).length) (nm := o1.length + (rfs (frVals x.frames ++ [x.val])).length) (r := rfs (frVals x.frames ++ [x.val])) (by rfl) (.tmp 17) (.tmp 25) _ (by rfl) W.heap.size 3 j0 _ 8 Tryz.underlying34 hj hy0 hy1 hy2 rfl (by decide) int_one (by rfl) rfl HRE.O (by rfl) hat4 rfl rfl (by omega) (by simp only [maxLen]; omega) HRE.b.size ?_; intro A5 c5 w5 hown5 hgr5 hat5; have HRE5 := HRE.app hown5 hgr5 hok4; have T5 := HRE5.T
          refine hK.out _ _ ?_ (fun hHeld5 => ?_)
          · first | trivial | ((try dsimp only); (exact ⟨T5.cell 0 rfl, T5.cell 3 rfl, T5.cell 4 rfl⟩))
          clear hK K hHeld4
          try go_frame
          refine htk 10 rfl ?_
          try go_frame
          refine wpAnyH_done (by kernel_rfl) ?_ _
          go_wp2_with fail
          go_meet
          exact ⟨A5, c5, _, by rw [List.length_append], ⟨rfl, HRE5⟩⟩
      case rest =>
        obtain ⟨A5, c5, o5, rfl, ho5, hR5⟩ := hcut
        have ho5l : o5.length ≤ o1.length + (rfs (frVals x.frames ++ [x.val])).length := by rw [ho5, List.length_append]; exact Nat.le_refl _
        have HR5 := Lib.hid hR5
        have t1 := hR5.T.cell 1 (v := .int .i64 x.state) rfl
        have t2 := hR5.T.cell 2 (v := .int .i64 x.on) rfl
        have HO5 := Lib.hid ho5; clear ho5 hR5 u0 u3 u4
        go_upto_if 29 with fail
        go_cut [3] from 27 to 34 (fun v3 W2 => ∃ (A6 : Option Addr) (c6 : Nat) (o6 : List Int), v3 = .slice A6 o6.length c6 ∧ Hid (o6 = o5 ++ (if x.state = 1 then [x.on] else []) ∧ RE W wr.heap.size #[.slice FA x.frames.length fc, .int .i64 x.state, .int .i64 x.on, .int .i64 x.val.1, .int .i64 x.val.2] A6 c6 o6 W2))
        case first =>
          by_cases h1 : x.state = 1
          · have d1 : (x.state == 1) = true := by rw [h1]; rfl
            rw [if_pos h1, List.length_singleton] at hp2
            have HH1 := Lib.hid h1; clear h1
            go_wp2_with (at_builtin; go_must (refine wpList_app (α := Int) (m := 1) (B := wc.heap.size + 1) (r := [x.on]) rfl (.tmp 30) (.tmp 33) _ rfl W.heap.size 3 j0 _ 8 Tryz.underlying34 hj hy0 hy1 hy2 rfl (by decide) int_one (by rfl) rfl (HR5.out.O.alloc _) (by rfl) (At.built wc _ _ [x.on] rfl (by intro z hz; simp at hz; subst hz; exact HC.out.2.2.2.2.2.2.2.2.2.1)) rfl (by omega) (by simp only [maxLen]; omega) (Nat.le_trans HR5.out.b.size (by simp)) ?_))
            intro A6 c6 w6 hown6 hgr6 hat6
            have hR6 := ((HR5.out.fresh ((Below.refl _ _).alloc (Nat.le_refl _) (.cells #[.int .i64 x.on] 3))).app hown6 hgr6 (by intro z hz; simp at hz; subst hz; exact HC.out.2.2.2.2.2.2.2.2.2.1))
            have HR6 := Lib.hid (hR6)
            clear hown6 hgr6 hat6 hR6
            go_wp2_with fail
            go_meet
            exact ⟨A6, c6, _, by rw [List.length_append]; rfl, ⟨by rw [if_pos HH1.out], HR6.out⟩⟩
          · have d1 : (x.state == 1) = false := by simpa using h1
            have HH1 := Lib.hid h1; clear h1
            go_wp2_with fail
            go_meet
            exact ⟨A5, c5, o5, rfl, ⟨by rw [if_neg HH1.out, List.append_nil], HR5.out⟩⟩
        case rest =>
          obtain ⟨A6, c6, o6, rfl, ho6, hR6⟩ := hcut
          have ho6l : o6.length ≤ o5.length + (if x.state = 1 then [x.on] else []).length := by rw [ho6, List.length_append]; exact Nat.le_refl _
          have HO6 := Lib.hid (And.intro ho6 hR6)
          have t0 := hR6.T.cell 0 (v := .slice FA x.frames.length fc) rfl
          clear t1 t2 ho6 hR6
          go_wp2_with fail
          clear t0
          go_loopg [3, 38] (x.frames.length) (fun gj ov jv wj => ∃ (j : Nat) (A7 : Option Addr) (c7 : Nat) (o7 : List Int), j ≤ x.frames.length ∧ gj = x.frames.length - j ∧ jv = .int .i64 j ∧ ov = .slice A7 o7.length c7 ∧ Hid (o7 = o6 ++ gens (x.frames.take j) ∧ RE W wr.heap.size #[.slice FA x.frames.length fc, .int .i64 x.state, .int .i64 x.on, .int .i64 x.val.1, .int .i64 x.val.2] A7 c7 o7 wj))
          case atStart => exact ⟨0, A6, c6, o6, Nat.zero_le _, rfl, rfl, rfl, ⟨by simp [gens], HO6.out.2⟩⟩
          case round =>
            obtain ⟨j, A7, c7, o7, hjl, rfl, rfl, rfl, hkeep7⟩ := hrel
            have hb7 := hkeep7.out.2.b
            have hsz7 := hb7.size
            by_cases hjt : j < x.frames.length
            · obtain ⟨b', o', f, AR, cr, AT, ct, rfl, hb', hf, q0, q1, q2, q3, q4, q5, q6, q7, a1, l1, a2, l2, z0, z1, z2, z3, z4, z5⟩ := (HAW.out.below (hb7.mono (show B ≤ W.heap.size by omega))).fr_ hjt
              have hgn := gens_take hf
              have hg1 := gens_len x.frames (j + 1)
              have hol : o7.length + (if 0 ≤ f.gen then [f.gen] else []).length ≤ o6.length + (gens x.frames).length := by
                rw [hgn, List.length_append] at hg1
                have := hkeep7.out.1
                rw [this, List.length_append]; omega
              have hj0 : (0 : Int) ≤ (j : Int) := by omega
              have hj1 : (j : Int) < (x.frames.length : Int) := by omega
              go_upto_region 11 with fail
              refine wp_world (fun V => Blk V wr.heap.size 141 #[.int .i64 f.fn, .int .i64 f.at_, .int .i64 f.fto, .int .i64 f.gen, .int .i64 f.self.1, .int .i64 f.self.2, .slice AR f.regs.length cr, .slice AT f.tries.length ct] ∧ Below wr.heap.size wr V ∧ wr.heap.size + 1 ≤ V.heap.size) ⟨Blk.new _ _ _, (Below.refl _ _).alloc (Nat.le_refl _) _, by simp⟩ ?_
              rintro V ⟨hFr, hbV, hsV⟩
              have e3 := hFr.cell 3 (v := .int .i64 f.gen) rfl
              have hRV := hkeep7.out.2.fresh hbV
              have ho7 := hkeep7.out.1
              have HV := Lib.hid (And.intro (hRV) (And.intro (hgn) (And.intro (ho7) (z3))))
              clear hRV hgn ho7 z0 z1 z2 z3 z4 z5 hkeep7 hb7 hFr hbV q0 q1 q2 q3 q4 q5 q6 q7 a1 a2 hf
              by_cases hg : 0 ≤ f.gen
              · have dg : decide (0 ≤ f.gen) = true := decide_eq_true hg
                rw [if_pos hg, List.length_singleton] at hol
                have HG := Lib.hid hg; clear hg
                have HRV := Lib.hid HV.out.1
                go_wp2_with (at_builtin; go_must (refine wpList_app (α := Int) (m := 1) (B := V.heap.size + 1) (r := [f.gen]) rfl (.tmp 45) (.tmp 48) _ rfl W.heap.size 3 j0 _ 8 Tryz.underlying34 hj hy0 hy1 hy2 rfl (by decide) int_one (by rfl) rfl (HRV.out.O.alloc _) (by rfl) (At.built V _ _ [f.gen] rfl (by intro z hz; simp at hz; subst hz; exact HV.out.2.2.2)) rfl (by omega) (by simp only [maxLen]; omega) (Nat.le_trans HRV.out.b.size (by simp)) ?_))
                intro A8 c8 w8 hown8 hgr8 hat8
                have hR8 := ((HRV.out.fresh ((Below.refl _ _).alloc (Nat.le_refl _) (.cells #[.int .i64 f.gen] 3))).app hown8 hgr8 (by intro z hz; simp at hz; subst hz; exact HV.out.2.2.2))
                have HR8 := Lib.hid (hR8)
                clear hown8 hgr8 hat8 hR8
                go_wp2_with fail
                go_roundg (x.frames.length - (j + 1))
                case measure => omega
                case rel => exact ⟨j + 1, A8, c8, _, by omega, rfl, by go_num, by rw [List.length_append]; rfl, ⟨by rw [HV.out.2.1, if_pos HG.out, HV.out.2.2.1, List.append_assoc], HR8.out⟩⟩
              · have dg : decide (0 ≤ f.gen) = false := decide_eq_false hg
                have HG := Lib.hid hg; clear hg
                go_wp2_with fail
                go_roundg (x.frames.length - (j + 1))
                case measure => omega
                case rel => exact ⟨j + 1, A7, c7, o7, by omega, rfl, by go_num, rfl, ⟨by rw [HV.out.2.1, if_neg (show ¬ (0 ≤ f.gen) by have := HG.out; omega), List.append_nil, HV.out.2.2.1], HV.out.1⟩⟩
            · have hk7 : x.frames.take j = x.frames := List.take_of_length_le (by omega)
              have h7 := hkeep7.out.1
              rw [hk7] at h7
              have hfin : o7 = thUp s (k + 1) := by
                rw [h7, HO6.out.1, HO5.out, HC.out.2.2.2.2.1.1, HC.out.2.2.2.2.2.2.2.1, HC.out.2.2.2.2.2.2.1]
                simp only [List.append_assoc]
              have HF := Lib.hid (And.intro (hfin) (hkeep7.out.2))
              clear hfin h7 hk7 hkeep7 hb7
              go_wp2_with fail
              go_roundg (s.threads.length - (k + 1))
              case measure => omega
              case rel => exact ⟨k + 1, A7, c7, o7, by omega, rfl, by go_num, rfl, ⟨HF.out.1, HF.out.2.O, HF.out.2.ok⟩, HF.out.2.b⟩
    · have hk2 : thUp s k = enUp s 0 := by unfold thUp enUp; rw [List.take_of_length_le (by omega)]; simp
      have s4 := (HW.out.1.fresh hbl).cell 4 (v := .slice EA s.ends.length ec) rfl
      have hk := hkeep.out
      rw [hk2] at hk
      have HK := Lib.hid (And.intro (hk) (hbl))
      clear hk hk2 hkeep hbl
      go_wp2_with fail
      clear s4
      go_loopg [3, 55] (s.ends.length) (fun gj ov jv wj => ∃ (j : Nat) (A7 : Option Addr) (c7 : Nat) (o7 : List Int), j ≤ s.ends.length ∧ gj = s.ends.length - j ∧ jv = .int .i64 j ∧ ov = .slice A7 o7.length c7 ∧ Hid (o7 = enUp s j ∧ Own wj W.heap.size 3 A7 c7 o7 ∧ ∀ z ∈ o7, I64 z) ∧ Below W.heap.size W wj)
      case atStart => exact ⟨0, A1, c1, o1, Nat.zero_le _, rfl, rfl, rfl, HK.out.1, HK.out.2⟩
      case round =>
        obtain ⟨j, A7, c7, o7, hjl, rfl, rfl, rfl, hkeep, hbl⟩ := hrel
        have hsz := hbl.size
        by_cases hjt : j < s.ends.length
        · obtain ⟨b, o, x, rfl, hb, hx, q0, q1, q2, z0, z1, z2⟩ := (H.out.1.a5.below ((HW.out.2.trans (hbl.mono (by omega))).mono hB)).en_ hjt
          have hnx := enUp_next hx
          have hp1 := H.out.2.2.2.2 (j + 1)
          have hl2 := H.out.2.2.1
          rw [hnx, List.length_append] at hp1
          have ho7l : o7.length ≤ (enUp s j).length := by rw [hkeep.out.1]; exact Nat.le_refl _
          have hj0 : (0 : Int) ≤ (j : Int) := by omega
          have hj1 : (j : Int) < (s.ends.length : Int) := by omega
          go_upto_region 18 with fail
          refine wp_world (fun V => Blk V wr.heap.size 127 #[.int .i64 x.cell, .int .i64 x.fn.1, .int .i64 x.fn.2] ∧ Below wr.heap.size wr V ∧ wr.heap.size + 1 ≤ V.heap.size) ⟨Blk.new _ _ _, (Below.refl _ _).alloc (Nat.le_refl _) _, by simp⟩ ?_
          rintro V ⟨hEn, hbV, hsV⟩
          have e1 := hEn.cell 1 (v := .int .i64 x.fn.1) rfl
          have e2 := hEn.cell 2 (v := .int .i64 x.fn.2) rfl
          have hxf : ∀ z ∈ [x.fn], Flat.ok z := fun z hz => by simp at hz; subst hz; exact ⟨z1, z2⟩
          have hAt := At.built V #[.int .i64 x.fn.1, .int .i64 x.fn.2] 48 [x.fn] rfl hxf
          have hrr := rRefs_any (some ⟨V.heap.size, 0, none⟩) 1 (V.heap.size + 1) 1 [x.fn] _ rfl hAt (by simp) (by omega)
          have hOV : Own (V.alloc (.cells #[.int .i64 x.fn.1, .int .i64 x.fn.2] 48)) W.heap.size 3 A7 c7 o7 := (hkeep.out.2.1.fresh hbV).alloc _
          have hbV2 : Below W.heap.size W (V.alloc (.cells #[.int .i64 x.fn.1, .int .i64 x.fn.2] 48)) := (hbl.trans (hbV.mono hsz)).alloc (by omega) _
          have hu1 : W.heap.size ≤ (V.alloc (.cells #[.int .i64 x.fn.1, .int .i64 x.fn.2] 48)).heap.size := hbV2.size
          have HV := Lib.hid (And.intro (hrr) (And.intro (hOV) (And.intro (hbV2) (And.intro (hnx) (And.intro (hkeep.out.1) (And.intro (hkeep.out.2.2) (rfs_i64 hxf)))))))
          clear hrr hOV hbV2 hnx hkeep hbl hbV hEn hAt hxf q0 q1 q2 z0 z1 z2 hx
          go_wp2_with fail
          refine HV.out.1.mono ?_
          rintro e w4 ⟨A4, c4, rfl, ho4, hb4⟩
          have hO4 := HV.out.2.1.fresh hb4
          have hb4w : Below W.heap.size W w4 := HV.out.2.2.1.trans (hb4.mono hu1)
          have hs4 := hb4.size
          have hrl := rfs_len [x.fn]
          rw [List.length_singleton] at hrl
          have H4 := Lib.hid (And.intro (hO4) (And.intro (hb4w) (ho4.at_ HV.out.2.2.2.2.2.2)))
          clear ho4 hO4 hb4w hb4 e1 e2
          go_wp2_with (at_builtin; go_must (refine wpList_app (α := Int) (m := (rfs [x.fn]).length) (B := w4.heap.size) (r := rfs [x.fn]) rfl (.tmp 59) (.tmp 63) _ rfl W.heap.size 3 j0 _ 8 Tryz.underlying34 hj hy0 hy1 hy2 rfl (by decide) int_one (by rfl) rfl H4.out.1 (by rfl) H4.out.2.2 rfl (by omega) (by simp only [maxLen]; omega) (by omega) ?_))
          intro A8 c8 w8 hown8 hgr8 hat8
          have hb8 : Below W.heap.size W w8 := H4.out.2.1.grown hgr8 (by omega) (fun g hg => (H4.out.1.lt g hg).1)
          have H8 := Lib.hid (And.intro (hown8) (hb8))
          clear hown8 hgr8 hat8 hb8
          go_wp2_with fail
          go_roundg (s.ends.length - (j + 1))
          case measure => omega
          case rel => exact ⟨j + 1, A8, c8, _, by omega, rfl, by go_num, by rw [List.length_append], ⟨by rw [HV.out.2.2.2.1, HV.out.2.2.2.2.1], H8.out.1, fun z hz => (List.mem_append.1 hz).elim (HV.out.2.2.2.2.2.1 z) (HV.out.2.2.2.2.2.2 z)⟩, H8.out.2⟩
        · have hk2 : enUp s j = roots s := by unfold enUp roots; rw [List.take_of_length_le (by omega)]
          have hk := hkeep.out
          rw [hk2] at hk
          have hb : Below w.heap.size w wr := HW.out.2.trans (hbl.mono (by omega))
          have HK2 := Lib.hid (And.intro (hk) (hb))
          clear hk hk2 hkeep hbl hb
          go_wp2_with fail
          rw [← HP.out]
          refine ⟨A7, c7, by rw [← HK2.out.1.1]; rfl, ?_, fun z hz => HK2.out.1.2.2 z (by rw [HK2.out.1.1]; exact hz), HK2.out.2⟩
          have := HK2.out.1.2.1.base_le (base' := w.heap.size) (by omega)
          rw [HK2.out.1.1] at this
          exact this
end Top
end Go.Proofs.YtdlcooplllimeaaGreatDoor

/- cells.Check. -/
namespace Go.Proofs.YtdlcooplllimeaaGreatDoor
open Go.RowKit

attribute [local go_sem ↓] Go.wp_at_zero Go.wp_at_succ

namespace Top
def ClOk (s : Stt) : Prop := StSmall s ∧ (∀ c ∈ s.cells, CeOk s c) ∧ ∀ e ∈ s.ends, fitsS s e.fn
def ClPost (s : Stt) (w : World) (e : Ending) (w' : World) : Prop := ∃ r : Int, e = .returned (.int .i64 r) ∧ (r = 0 → ClOk s) ∧ Below w.heap.size w w'
set_option maxHeartbeats 3200000 in
set_option maxRecDepth 100000 in
theorem clCheck_any (w : World) (B : Nat) (s : Stt) (CA SA TA HA EA DA : Option Addr) (cc sc tc hc ec dc : Nat) (h : StP w B s CA SA TA HA EA DA cc sc tc hc ec dc) (hB : B ≤ w.heap.size) (hT : Tabs w) :
    Calls Tryz.prog 31 #[.agg #[.slice CA s.cells.length cc, .slice SA s.shapes.length sc, .slice TA s.texts.length tc, .slice HA s.threads.length hc, .slice EA s.ends.length ec, .slice DA s.said.length dc, .int .i64 s.asked, .int .i64 s.steps]] w (ClPost s w) := by
  obtain ⟨P, hP⟩ : ∃ P, ClPost s w = P := ⟨_, rfl⟩
  have HP := Lib.hid hP; rw [hP]; clear hP
  have hb0 : Below w.heap.size w (w.alloc (.cells #[.slice CA s.cells.length cc, .slice SA s.shapes.length sc, .slice TA s.texts.length tc, .slice HA s.threads.length hc, .slice EA s.ends.length ec, .slice DA s.said.length dc, .int .i64 s.asked, .int .i64 s.steps] 32)) := (Below.refl _ _).alloc (Nat.le_refl _) _
  have h0 := h.below (hb0.mono hB)
  have hS0 := h0.stA (Blk.new w 32 #[.slice CA s.cells.length cc, .slice SA s.shapes.length sc, .slice TA s.texts.length tc, .slice HA s.threads.length hc, .slice EA s.ends.length ec, .slice DA s.said.length dc, .int .i64 s.asked, .int .i64 s.steps]) (by simp; omega)
  have hlg := cllarge_any _ w.heap.size s hS0
  have H := Lib.hid (And.intro h (And.intro hb0 (And.intro hlg hT))); clear h hb0 h0 hS0 hlg hT
  go_enter Tryz.func31, Tryz.ntmps31
  go_wp2_with fail
  refine H.out.2.2.1.mono ?_
  rintro e w1 ⟨b, rfl, hsm, hb1⟩
  have hbl1 := H.out.2.1.trans (hb1.mono (by simp))
  have hP1 := (Blk.new w 32 #[.slice CA s.cells.length cc, .slice SA s.shapes.length sc, .slice TA s.texts.length tc, .slice HA s.threads.length hc, .slice EA s.ends.length ec, .slice DA s.said.length dc, .int .i64 s.asked, .int .i64 s.steps]).fresh hb1
  have hs1 : w.heap.size + 1 ≤ w1.heap.size := by have := hb1.size; simpa using this
  have hfin : ∀ (r : Int) (w' : World), r ≠ 0 → Below w.heap.size w w' → P (.returned (.int .i64 r)) w' := by
    intro r w' hr hb
    rw [← HP.out]
    exact ⟨r, rfl, fun h => absurd h hr, hb⟩
  have HF := Lib.hid hfin; clear hfin
  cases b with
  | true =>
    have HB := Lib.hid hbl1; clear hbl1 hP1 hb1 hsm
    go_wp2_with fail
    exact HF.out 2 _ (by decide) HB.out
  | false =>
  have h1 := H.out.1.below (hbl1.mono hB)
  have g1 := hP1.cell 1 (v := .slice SA s.shapes.length sc) rfl
  have hsh := shCheck_any SA sc B s.shapes.length s.shapes w1 rfl h1.a2 (by omega) h1.k2
  have H1 := Lib.hid (And.intro hsh (And.intro hbl1 (And.intro hP1 (hsm rfl)))); clear hsh hbl1 hP1 hsm hb1 h1
  go_wp2_with fail
  refine H1.out.1.mono ?_
  rintro e w2 ⟨r, rfl, -, hb2⟩
  have hbl2 := H1.out.2.1.trans (hb2.mono (by omega))
  have hP2 := H1.out.2.2.1.fresh hb2
  have hs2 : w.heap.size + 1 ≤ w2.heap.size := by have := hb2.size; omega
  clear g1
  by_cases hr : r = 0
  · subst hr
    have h2 := H.out.1.below (hbl2.mono hB)
    have g1 := hP2.cell 1 (v := .slice SA s.shapes.length sc) rfl
    have g2 := hP2.cell 2 (v := .slice TA s.texts.length tc) rfl
    have htx := cltexts_any TA tc B s.texts.length s.texts w2 rfl h2.a3 (by omega) (by have := H1.out.2.2.2.2.1; omega) (H.out.2.2.2.fresh hbl2)
    have H2 := Lib.hid (And.intro htx (And.intro hbl2 hP2)); clear htx hbl2 hP2 hb2 h2
    go_wp2_with fail
    refine H2.out.1.mono ?_
    rintro e w3 ⟨b, rfl, hb3⟩
    have hbl3 := H2.out.2.1.trans (hb3.mono (by omega))
    have hP3 := H2.out.2.2.fresh hb3
    have hs3 : w.heap.size + 1 ≤ w3.heap.size := by have := hb3.size; omega
    clear g1 g2
    cases b with
    | false =>
      have HB := Lib.hid hbl3; clear hbl3 hP3 hb3
      go_wp2_with fail
      exact HF.out 3 _ (by decide) HB.out
    | true =>
    have h3 := H.out.1.below (hbl3.mono hB)
    have g1 := hP3.cell 1 (v := .slice SA s.shapes.length sc) rfl
    have hct := ctFShape_any SA sc B 75 s.shapes.length #[.pointer (some ⟨w.heap.size, 0, none⟩)] s.shapes w3 (fun _ => True) rfl h3.a2 (by omega) (by have := h3.k2; unfold maxLen at this; omega) egCk1
      (fun V hV x _ _ _ => clck1_any V w.heap.size s x.1 x.2 ((h3.stA hP3 (by omega)).fresh hV))
    have H3 := Lib.hid (And.intro hct (And.intro hbl3 hP3)); clear hct hbl3 hP3 hb3 h3
    go_wp2_with fail
    refine H3.out.1.mono ?_
    rintro e w4 ⟨b, rfl, -, hb4⟩
    have hbl4 := H3.out.2.1.trans (hb4.mono (by omega))
    have hP4 := H3.out.2.2.fresh hb4
    have hs4 : w.heap.size + 1 ≤ w4.heap.size := by have := hb4.size; omega
    clear g1
    cases b with
    | true =>
      have HB := Lib.hid hbl4; clear hbl4 hP4 hb4
      go_wp2_with fail
      exact HF.out 3 _ (by decide) HB.out
    | false =>
    have h4 := H.out.1.below (hbl4.mono hB)
    have g0 := hP4.cell 0 (v := .slice CA s.cells.length cc) rfl
    have hct := ctFCell_any CA cc B 77 s.cells.length #[.pointer (some ⟨w.heap.size, 0, none⟩)] s.cells w4 (fun c => CeOk s c) rfl h4.a1 (by omega) (by have := H1.out.2.2.2.1; omega) egCk2
      (fun V hV x hx Av Af cv cf a1 l1 a2 l2 _ _ => clck2_any V w.heap.size B cv cf Av Af s x ((h4.stA hP4 (by omega)).fresh hV) a1 l1 a2 l2 (by have := hV.size; omega) (by have := H1.out.2.2.2.2.2.2.2 x hx; unfold ceSmall at this; omega) H1.out.2.2.2.1 ((h4.cap hP4).fresh hP4.lt hV))
    have H4 := Lib.hid (And.intro hct (And.intro hbl4 hP4)); clear hct hbl4 hP4 hb4 h4
    go_wp2_with fail
    refine H4.out.1.mono ?_
    rintro e w5 ⟨b, rfl, hce, hb5⟩
    have hbl5 := H4.out.2.1.trans (hb5.mono (by omega))
    have hP5 := H4.out.2.2.fresh hb5
    have hs5 : w.heap.size + 1 ≤ w5.heap.size := by have := hb5.size; omega
    clear g0
    cases b with
    | true =>
      have HB := Lib.hid hbl5; clear hbl5 hP5 hb5 hce
      go_wp2_with fail
      exact HF.out 3 _ (by decide) HB.out
    | false =>
    have h5 := H.out.1.below (hbl5.mono hB)
    have g5 := hP5.cell 5 (v := .slice DA s.said.length dc) rfl
    have hct := ctFVal_any DA dc B 80 s.said.length #[.pointer (some ⟨w.heap.size, 0, none⟩)] s.said w5 (fun _ => True) rfl h5.a6 (by omega) (by have := H1.out.2.2.2.2.2.1; omega) egCk3
      (fun V hV x _ i1 i2 => clck3_any V w.heap.size s x.1 x.2 ((h5.stA hP5 (by omega)).fresh hV) i1 i2)
    have H5 := Lib.hid (And.intro hct (And.intro hbl5 (And.intro hP5 (hce rfl)))); clear hct hbl5 hP5 hb5 h5 hce
    go_wp2_with fail
    refine H5.out.1.mono ?_
    rintro e w6 ⟨b, rfl, -, hb6⟩
    have hbl6 := H5.out.2.1.trans (hb6.mono (by omega))
    have hP6 := H5.out.2.2.1.fresh hb6
    have hs6 : w.heap.size + 1 ≤ w6.heap.size := by have := hb6.size; omega
    clear g5
    cases b with
    | true =>
      have HB := Lib.hid hbl6; clear hbl6 hP6 hb6
      go_wp2_with fail
      exact HF.out 3 _ (by decide) HB.out
    | false =>
    have h6 := H.out.1.below (hbl6.mono hB)
    have g4 := hP6.cell 4 (v := .slice EA s.ends.length ec) rfl
    have hct := ctFEnd_any EA ec B 83 s.ends.length #[.pointer (some ⟨w.heap.size, 0, none⟩)] s.ends w6 (fun e => fitsS s e.fn) rfl h6.a5 (by omega) (by have := H1.out.2.2.2.2.2.2.1; omega) egCk4
      (fun V hV x _ _ i1 i2 => clck4_any V w.heap.size s x ((h6.stA hP6 (by omega)).fresh hV) H1.out.2.2.2.1 i1 i2)
    have H6 := Lib.hid (And.intro hct hbl6); clear hct hbl6 hP6 hb6 h6
    go_wp2_with fail
    refine H6.out.1.mono ?_
    rintro e w7 ⟨b, rfl, hen, hb7⟩
    have H7 := Lib.hid (And.intro hen (H6.out.2.trans (hb7.mono (by omega)))); clear hen hb7 g4
    cases b with
    | true =>
      go_wp2_with fail
      exact HF.out 3 _ (by decide) H7.out.2
    | false =>
      go_wp2_with fail
      rw [← HP.out]
      exact ⟨0, rfl, fun _ => ⟨H1.out.2.2.2, H5.out.2.2.2, H7.out.1 (by simp)⟩, H7.out.2⟩
  · have d0 : (r == 0) = false := by simpa using hr
    have d1 : (r != 0) = true := by simpa using hr
    have HR := Lib.hid (And.intro hr hbl2); clear hr hbl2 hP2 hb2
    go_wp2_with fail
    exact HF.out r _ HR.out.1 HR.out.2
end Top
end Go.Proofs.YtdlcooplllimeaaGreatDoor
