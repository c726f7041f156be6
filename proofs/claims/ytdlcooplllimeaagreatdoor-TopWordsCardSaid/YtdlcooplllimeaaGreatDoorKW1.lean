/- KW: EqH, EqI. -/
import Derived.Test.YtdlcooplllimeaaGreatDoorKT14
/- slices.EqualFunc over cells, threads, frames: lists that read the same. Printed by geneqh.py. -/
namespace Go.Proofs.YtdlcooplllimeaaGreatDoor
open Go.RowKit

attribute [local go_sem ↓] Go.wp_at_zero Go.wp_at_succ

namespace Top
set_option maxHeartbeats 1600000 in
set_option maxRecDepth 100000 in
theorem eqFnCe_any (A D : Option Addr) (c d B g n : Nat) (l : List Ce) (w : World) (hn : l.length = n) (h : At w B A l) (h2 : At w B D l) (hB : B ≤ w.heap.size) (hl : n ≤ maxLen)
    (eg : ∀ args w, (callFunc g args).run Tryz.prog w = .ok (.enter g args) w) (hp : ∀ V, Below w.heap.size w V → ∀ x ∈ l, ∀ (VA : Option Addr) (vc : Nat) (FA : Option Addr) (fc : Nat) (VA2 : Option Addr) (vc2 : Nat) (FA2 : Option Addr) (fc2 : Nat), At V B VA x.vals → (x.vals.length ≤ vc ∧ vc ≤ maxLen) → At V B FA x.frames → (x.frames.length ≤ fc ∧ fc ≤ maxLen) → At V B VA2 x.vals → (x.vals.length ≤ vc2 ∧ vc2 ≤ maxLen) → At V B FA2 x.frames → (x.frames.length ≤ fc2 ∧ fc2 ≤ maxLen) → (I64 x.kind ∧ I64 x.num) →
      Calls Tryz.prog g (#[.agg #[.int .i64 x.kind, .int .i64 x.num, .slice VA x.vals.length vc, .slice FA x.frames.length fc], .agg #[.int .i64 x.kind, .int .i64 x.num, .slice VA2 x.vals.length vc2, .slice FA2 x.frames.length fc2]] ++ #[]) V fun e V' => e = .returned (.bool true) ∧ Below V.heap.size V V') :
    Calls Tryz.prog 41 #[.slice A n c, .slice D n d, .func (.func g) #[] #[]] w fun e w' => e = .returned (.bool true) ∧ Below w.heap.size w w' := by
  unfold maxLen at hl
  have H := Lib.hid (And.intro h (And.intro h2 hn)); clear h h2 hn
  have HP := Lib.hid hp; clear hp
  have HE := Lib.hid eg
  go_enter Tryz.func41, Tryz.ntmps41
  go_wp2
  go_loopg [17] n (fun gk i wr => ∃ k : Nat, k ≤ n ∧ gk = n - k ∧ i = .int .i64 k ∧ Below w.heap.size w wr)
  case atStart => exact ⟨0, Nat.zero_le _, rfl, rfl, Below.refl _ _⟩
  case round =>
    obtain ⟨k, hk, rfl, rfl, hbl⟩ := hrel
    have hsz := hbl.size
    by_cases hlt : k < n
    · obtain ⟨b, o, x, VA, vc, FA, fc, rfl, hb, hx, q0, q1, q2, q3, aV, lV, aF, lF, i0, i1⟩ := (H.out.1.below (hbl.mono hB)).ce_ (k := k) (by have := H.out.2.2; omega)
      obtain ⟨b2, o2, y, VA2, vc2, FA2, fc2, rfl, hb2, hy, p0, p1, p2, p3, aV2, lV2, aF2, lF2, -⟩ := (H.out.2.1.below (hbl.mono hB)).ce_ (k := k) (by have := H.out.2.2; omega)
      obtain rfl : x = y := by rw [hx] at hy; exact Option.some.inj hy
      have hk0 : (0 : Int) ≤ (k : Int) := by omega
      have hk1 : (k : Int) < (n : Int) := by omega
      have hb2w : b2 < wr.heap.size := by omega
      have hb2n : b2 ≠ wr.heap.size := by omega
      obtain ⟨W, hW⟩ : ∃ W, (wr.alloc (.cells #[.int .i64 x.kind, .int .i64 x.num, .slice VA x.vals.length vc, .slice FA x.frames.length fc] 46)).alloc (.cells #[.int .i64 x.kind, .int .i64 x.num, .slice VA2 x.vals.length vc2, .slice FA2 x.frames.length fc2] 46) = W := ⟨_, rfl⟩
      have hbW : Below wr.heap.size wr W := by rw [← hW]; exact ((Below.refl _ _).alloc (Nat.le_refl _) _).alloc (by simp) _
      have hcall := HP.out W (hbl.trans (hbW.mono hsz)) x (List.mem_of_getElem? hx) VA vc FA fc VA2 vc2 FA2 fc2 (aV.below (hbW.mono (by omega))) lV (aF.below (hbW.mono (by omega))) lF (aV2.below (hbW.mono (by omega))) lV2 (aF2.below (hbW.mono (by omega))) lF2 ⟨i0, i1⟩
      have HX := Lib.hid (And.intro hcall (And.intro hbW hW)); clear hcall hbW hW hx hy aV lV aF lF aV2 lV2 aF2 lF2 i0 i1
      go_upto_region 7 with fail
      go_wp2_with fail
      go_at_fn g
      rw [HX.out.2.2]
      refine Calls.mono HX.out.1 ?_
      rintro e w' ⟨rfl, hb'⟩
      have hB3 : Below w.heap.size w w' := hbl.trans ((HX.out.2.1.trans (hb'.mono HX.out.2.1.size)).mono hsz)
      clear hb'
      go_wp2_with fail
      go_roundg (n - (k + 1))
      case measure => omega
      case rel => exact ⟨k + 1, by omega, rfl, by go_num, hB3⟩
    · go_wp2
      go_ret
      exact ⟨rfl, hbl⟩
set_option maxHeartbeats 1600000 in
set_option maxRecDepth 100000 in
theorem eqFnTh_any (A D : Option Addr) (c d B g n : Nat) (l : List Th) (w : World) (hn : l.length = n) (h : At w B A l) (h2 : At w B D l) (hB : B ≤ w.heap.size) (hl : n ≤ maxLen)
    (eg : ∀ args w, (callFunc g args).run Tryz.prog w = .ok (.enter g args) w) (hp : ∀ V, Below w.heap.size w V → ∀ x ∈ l, ∀ (FA : Option Addr) (fc : Nat) (FA2 : Option Addr) (fc2 : Nat), At V B FA x.frames → (x.frames.length ≤ fc ∧ fc ≤ maxLen) → At V B FA2 x.frames → (x.frames.length ≤ fc2 ∧ fc2 ≤ maxLen) → (I64 x.state ∧ I64 x.on ∧ I64 x.val.1 ∧ I64 x.val.2) →
      Calls Tryz.prog g (#[.agg #[.slice FA x.frames.length fc, .int .i64 x.state, .int .i64 x.on, .int .i64 x.val.1, .int .i64 x.val.2], .agg #[.slice FA2 x.frames.length fc2, .int .i64 x.state, .int .i64 x.on, .int .i64 x.val.1, .int .i64 x.val.2]] ++ #[]) V fun e V' => e = .returned (.bool true) ∧ Below V.heap.size V V') :
    Calls Tryz.prog 47 #[.slice A n c, .slice D n d, .func (.func g) #[] #[]] w fun e w' => e = .returned (.bool true) ∧ Below w.heap.size w w' := by
  unfold maxLen at hl
  have H := Lib.hid (And.intro h (And.intro h2 hn)); clear h h2 hn
  have HP := Lib.hid hp; clear hp
  have HE := Lib.hid eg
  go_enter Tryz.func47, Tryz.ntmps47
  go_wp2
  go_loopg [17] n (fun gk i wr => ∃ k : Nat, k ≤ n ∧ gk = n - k ∧ i = .int .i64 k ∧ Below w.heap.size w wr)
  case atStart => exact ⟨0, Nat.zero_le _, rfl, rfl, Below.refl _ _⟩
  case round =>
    obtain ⟨k, hk, rfl, rfl, hbl⟩ := hrel
    have hsz := hbl.size
    by_cases hlt : k < n
    · obtain ⟨b, o, x, FA, fc, rfl, hb, hx, q0, q1, q2, q3, q4, aF, lF, i0, i1, i2, i3⟩ := (H.out.1.below (hbl.mono hB)).th_ (k := k) (by have := H.out.2.2; omega)
      obtain ⟨b2, o2, y, FA2, fc2, rfl, hb2, hy, p0, p1, p2, p3, p4, aF2, lF2, -⟩ := (H.out.2.1.below (hbl.mono hB)).th_ (k := k) (by have := H.out.2.2; omega)
      obtain rfl : x = y := by rw [hx] at hy; exact Option.some.inj hy
      have hk0 : (0 : Int) ≤ (k : Int) := by omega
      have hk1 : (k : Int) < (n : Int) := by omega
      have hb2w : b2 < wr.heap.size := by omega
      have hb2n : b2 ≠ wr.heap.size := by omega
      obtain ⟨W, hW⟩ : ∃ W, (wr.alloc (.cells #[.slice FA x.frames.length fc, .int .i64 x.state, .int .i64 x.on, .int .i64 x.val.1, .int .i64 x.val.2] 98)).alloc (.cells #[.slice FA2 x.frames.length fc2, .int .i64 x.state, .int .i64 x.on, .int .i64 x.val.1, .int .i64 x.val.2] 98) = W := ⟨_, rfl⟩
      have hbW : Below wr.heap.size wr W := by rw [← hW]; exact ((Below.refl _ _).alloc (Nat.le_refl _) _).alloc (by simp) _
      have hcall := HP.out W (hbl.trans (hbW.mono hsz)) x (List.mem_of_getElem? hx) FA fc FA2 fc2 (aF.below (hbW.mono (by omega))) lF (aF2.below (hbW.mono (by omega))) lF2 ⟨i0, i1, i2, i3⟩
      have HX := Lib.hid (And.intro hcall (And.intro hbW hW)); clear hcall hbW hW hx hy aF lF aF2 lF2 i0 i1 i2 i3
      go_upto_region 7 with fail
      go_wp2_with fail
      go_at_fn g
      rw [HX.out.2.2]
      refine Calls.mono HX.out.1 ?_
      rintro e w' ⟨rfl, hb'⟩
      have hB3 : Below w.heap.size w w' := hbl.trans ((HX.out.2.1.trans (hb'.mono HX.out.2.1.size)).mono hsz)
      clear hb'
      go_wp2_with fail
      go_roundg (n - (k + 1))
      case measure => omega
      case rel => exact ⟨k + 1, by omega, rfl, by go_num, hB3⟩
    · go_wp2
      go_ret
      exact ⟨rfl, hbl⟩
set_option maxHeartbeats 1600000 in
set_option maxRecDepth 100000 in
theorem eqFnFr_any (A D : Option Addr) (c d B g n : Nat) (l : List Fr) (w : World) (hn : l.length = n) (h : At w B A l) (h2 : At w B D l) (hB : B ≤ w.heap.size) (hl : n ≤ maxLen)
    (eg : ∀ args w, (callFunc g args).run Tryz.prog w = .ok (.enter g args) w) (hp : ∀ V, Below w.heap.size w V → ∀ x ∈ l, ∀ (RA : Option Addr) (rc : Nat) (TA : Option Addr) (tc : Nat) (RA2 : Option Addr) (rc2 : Nat) (TA2 : Option Addr) (tc2 : Nat), At V B RA x.regs → (x.regs.length ≤ rc ∧ rc ≤ maxLen) → At V B TA x.tries → (x.tries.length ≤ tc ∧ tc ≤ maxLen) → At V B RA2 x.regs → (x.regs.length ≤ rc2 ∧ rc2 ≤ maxLen) → At V B TA2 x.tries → (x.tries.length ≤ tc2 ∧ tc2 ≤ maxLen) → (I64 x.fn ∧ I64 x.at_ ∧ I64 x.fto ∧ I64 x.gen ∧ I64 x.self.1 ∧ I64 x.self.2) →
      Calls Tryz.prog g (#[.agg #[.int .i64 x.fn, .int .i64 x.at_, .int .i64 x.fto, .int .i64 x.gen, .int .i64 x.self.1, .int .i64 x.self.2, .slice RA x.regs.length rc, .slice TA x.tries.length tc], .agg #[.int .i64 x.fn, .int .i64 x.at_, .int .i64 x.fto, .int .i64 x.gen, .int .i64 x.self.1, .int .i64 x.self.2, .slice RA2 x.regs.length rc2, .slice TA2 x.tries.length tc2]] ++ #[]) V fun e V' => e = .returned (.bool true) ∧ Below V.heap.size V V') :
    Calls Tryz.prog 106 #[.slice A n c, .slice D n d, .func (.func g) #[] #[]] w fun e w' => e = .returned (.bool true) ∧ Below w.heap.size w w' := by
  unfold maxLen at hl
  have H := Lib.hid (And.intro h (And.intro h2 hn)); clear h h2 hn
  have HP := Lib.hid hp; clear hp
  have HE := Lib.hid eg
  go_enter Tryz.func106, Tryz.ntmps106
  go_wp2
  go_loopg [17] n (fun gk i wr => ∃ k : Nat, k ≤ n ∧ gk = n - k ∧ i = .int .i64 k ∧ Below w.heap.size w wr)
  case atStart => exact ⟨0, Nat.zero_le _, rfl, rfl, Below.refl _ _⟩
  case round =>
    obtain ⟨k, hk, rfl, rfl, hbl⟩ := hrel
    have hsz := hbl.size
    by_cases hlt : k < n
    · obtain ⟨b, o, x, RA, rc, TA, tc, rfl, hb, hx, q0, q1, q2, q3, q4, q5, q6, q7, aR, lR, aT, lT, i0, i1, i2, i3, i4, i5⟩ := (H.out.1.below (hbl.mono hB)).fr_ (k := k) (by have := H.out.2.2; omega)
      obtain ⟨b2, o2, y, RA2, rc2, TA2, tc2, rfl, hb2, hy, p0, p1, p2, p3, p4, p5, p6, p7, aR2, lR2, aT2, lT2, -⟩ := (H.out.2.1.below (hbl.mono hB)).fr_ (k := k) (by have := H.out.2.2; omega)
      obtain rfl : x = y := by rw [hx] at hy; exact Option.some.inj hy
      have hk0 : (0 : Int) ≤ (k : Int) := by omega
      have hk1 : (k : Int) < (n : Int) := by omega
      have hb2w : b2 < wr.heap.size := by omega
      have hb2n : b2 ≠ wr.heap.size := by omega
      obtain ⟨W, hW⟩ : ∃ W, (wr.alloc (.cells #[.int .i64 x.fn, .int .i64 x.at_, .int .i64 x.fto, .int .i64 x.gen, .int .i64 x.self.1, .int .i64 x.self.2, .slice RA x.regs.length rc, .slice TA x.tries.length tc] 141)).alloc (.cells #[.int .i64 x.fn, .int .i64 x.at_, .int .i64 x.fto, .int .i64 x.gen, .int .i64 x.self.1, .int .i64 x.self.2, .slice RA2 x.regs.length rc2, .slice TA2 x.tries.length tc2] 141) = W := ⟨_, rfl⟩
      have hbW : Below wr.heap.size wr W := by rw [← hW]; exact ((Below.refl _ _).alloc (Nat.le_refl _) _).alloc (by simp) _
      have hcall := HP.out W (hbl.trans (hbW.mono hsz)) x (List.mem_of_getElem? hx) RA rc TA tc RA2 rc2 TA2 tc2 (aR.below (hbW.mono (by omega))) lR (aT.below (hbW.mono (by omega))) lT (aR2.below (hbW.mono (by omega))) lR2 (aT2.below (hbW.mono (by omega))) lT2 ⟨i0, i1, i2, i3, i4, i5⟩
      have HX := Lib.hid (And.intro hcall (And.intro hbW hW)); clear hcall hbW hW hx hy aR lR aT lT aR2 lR2 aT2 lT2 i0 i1 i2 i3 i4 i5
      go_upto_region 7 with fail
      go_wp2_with fail
      go_at_fn g
      rw [HX.out.2.2]
      refine Calls.mono HX.out.1 ?_
      rintro e w' ⟨rfl, hb'⟩
      have hB3 : Below w.heap.size w w' := hbl.trans ((HX.out.2.1.trans (hb'.mono HX.out.2.1.size)).mono hsz)
      clear hb'
      go_wp2_with fail
      go_roundg (n - (k + 1))
      case measure => omega
      case rel => exact ⟨k + 1, by omega, rfl, by go_num, hB3⟩
    · go_wp2
      go_ret
      exact ⟨rfl, hbl⟩
end Top
end Go.Proofs.YtdlcooplllimeaaGreatDoor

/- state.Same: two states that read the same. -/
namespace Go.Proofs.YtdlcooplllimeaaGreatDoor
open Go.RowKit

attribute [local go_sem ↓] Go.wp_at_zero Go.wp_at_succ

namespace Top
theorem egF : ∀ args w, (callFunc 107 args).run Tryz.prog w = .ok (.enter 107 args) w := fun _ _ => by kernel_rfl
theorem egS1 : ∀ args w, (callFunc 42 args).run Tryz.prog w = .ok (.enter 42 args) w := fun _ _ => by kernel_rfl
theorem egS2 : ∀ args w, (callFunc 48 args).run Tryz.prog w = .ok (.enter 48 args) w := fun _ _ => by kernel_rfl
theorem two_box (w : World) (t : TypeId) (a b : Array Value) : Blk ((w.alloc (.cells a t)).alloc (.cells b t)) w.heap.size t a ∧ Blk ((w.alloc (.cells a t)).alloc (.cells b t)) (w.heap.size + 1) t b ∧ Below w.heap.size w ((w.alloc (.cells a t)).alloc (.cells b t)) :=
  ⟨(Blk.new _ _ _).alloc _, Blk.at_ _ _ _ (by simp), ((Below.refl _ _).alloc (Nat.le_refl _) _).alloc (by simp) _⟩
def TrueP (w : World) (e : Ending) (w' : World) : Prop := e = .returned (.bool true) ∧ Below w.heap.size w w'
set_option maxHeartbeats 1600000 in
set_option maxRecDepth 100000 in
theorem sameFrame_any (B : Nat) (x : Fr) (RA TA RA2 TA2 : Option Addr) (rc tc rc2 tc2 : Nat) (w : World) (a1 : At w B RA x.regs) (a2 : At w B TA x.tries) (b1 : At w B RA2 x.regs) (b2 : At w B TA2 x.tries) (hB : B ≤ w.heap.size) (hr : x.regs.length ≤ maxLen) (ht : x.tries.length ≤ maxLen) :
    Calls Tryz.prog 107 #[.agg #[.int .i64 x.fn, .int .i64 x.at_, .int .i64 x.fto, .int .i64 x.gen, .int .i64 x.self.1, .int .i64 x.self.2, .slice RA x.regs.length rc, .slice TA x.tries.length tc], .agg #[.int .i64 x.fn, .int .i64 x.at_, .int .i64 x.fto, .int .i64 x.gen, .int .i64 x.self.1, .int .i64 x.self.2, .slice RA2 x.regs.length rc2, .slice TA2 x.tries.length tc2]] w (TrueP w) := by
  obtain ⟨P, hP⟩ : ∃ P, TrueP w = P := ⟨_, rfl⟩
  have HP := Lib.hid hP; rw [hP]; clear hP
  have H := Lib.hid (And.intro (a1) (And.intro (a2) (And.intro (b1) (b2))))
  clear a1 a2 b1 b2
  go_enter Tryz.func107, Tryz.ntmps107
  go_upto_region 1 with fail
  refine wp_world (fun W => Blk W w.heap.size 141 #[.int .i64 x.fn, .int .i64 x.at_, .int .i64 x.fto, .int .i64 x.gen, .int .i64 x.self.1, .int .i64 x.self.2, .slice RA x.regs.length rc, .slice TA x.tries.length tc] ∧ Blk W (w.heap.size + 1) 141 #[.int .i64 x.fn, .int .i64 x.at_, .int .i64 x.fto, .int .i64 x.gen, .int .i64 x.self.1, .int .i64 x.self.2, .slice RA2 x.regs.length rc2, .slice TA2 x.tries.length tc2] ∧ Below w.heap.size w W) (two_box w _ _ _) ?_
  rintro W ⟨g1, g2, hbW⟩
  have hc := eqP_any43 RA RA2 rc rc2 B _ _ x.regs x.regs W rfl rfl (H.out.1.below (hbW.mono hB)) (H.out.2.2.1.below (hbW.mono hB)) hr
  obtain ⟨q0, q1, q2, q3, q4, q5, q6, q7⟩ := g1.cells8
  obtain ⟨p0, p1, p2, p3, p4, p5, p6, p7⟩ := g2.cells8
  have HW := Lib.hid (And.intro (hc) (And.intro (hbW) (And.intro (g1) (g2))))
  clear hc hbW g1 g2
  go_wp2_with fail
  refine HW.out.1.mono ?_
  rintro e w1 ⟨b, rfl, hb, hb1⟩
  obtain rfl : b = true := hb.2 trivial
  have hb01 : Below w.heap.size w w1 := HW.out.2.1.trans (hb1.mono HW.out.2.1.size)
  have hc := eqP_any108 TA TA2 tc tc2 B _ _ x.tries x.tries w1 rfl rfl (H.out.2.1.below (hb01.mono hB)) (H.out.2.2.2.below (hb01.mono hB)) ht
  clear q0 q1 q2 q3 q4 q5 q6 q7 p0 p1 p2 p3 p4 p5 p6 p7
  have q6 := (HW.out.2.2.1.fresh hb1).cell 7 (v := .slice TA x.tries.length tc) rfl
  have p6 := (HW.out.2.2.2.fresh hb1).cell 7 (v := .slice TA2 x.tries.length tc2) rfl
  have H1 := Lib.hid (And.intro (hc) (hb01))
  clear hc hb01 hb1 hb
  go_wp2_with fail
  refine H1.out.1.mono ?_
  rintro e w2 ⟨b, rfl, hb, hb2⟩
  obtain rfl : b = true := hb.2 trivial
  have hfin : P (.returned (.bool true)) w2 := by rw [← HP.out]; exact ⟨rfl, H1.out.2.trans (hb2.mono H1.out.2.size)⟩
  have H2 := Lib.hid (hfin)
  clear hfin hb2 hb
  go_wp2_with fail
  exact H2.out
set_option maxRecDepth 100000 in
theorem sameFrames_any (B n c d : Nat) (A D : Option Addr) (l : List Fr) (w : World) (hn : l.length = n) (h : At w B A l) (h2 : At w B D l) (hB : B ≤ w.heap.size) (hl : n ≤ maxLen) :
    Calls Tryz.prog 44 #[.slice A n c, .slice D n d] w (TrueP w) := by
  have hc := eqFnFr_any A D c d B 107 n l w hn h h2 hB hl egF (fun V hV x hx RA rc TA tc RA2 rc2 TA2 tc2 r1 l1 t1 l2 r2 l3 t2 l4 _ => sameFrame_any B x RA TA RA2 TA2 rc tc rc2 tc2 V r1 t1 r2 t2 (by have := hV.size; omega) (by omega) (by omega))
  obtain ⟨P, hP⟩ : ∃ P, TrueP w = P := ⟨_, rfl⟩
  have HP := Lib.hid hP; rw [hP]; clear hP
  have H := Lib.hid (hc)
  clear hc h h2 hn hB
  go_enter Tryz.func44, Tryz.ntmps44
  go_wp2_with fail
  refine H.out.mono ?_
  rintro e w1 ⟨rfl, hb⟩
  have hfin : P (.returned (.bool true)) w1 := by rw [← HP.out]; exact ⟨rfl, hb⟩
  have H1 := Lib.hid (hfin)
  clear hfin hb
  go_wp2_with fail
  exact H1.out
set_option maxHeartbeats 1600000 in
set_option maxRecDepth 100000 in
theorem sameCell_any (B : Nat) (x : Ce) (VA FA VA2 FA2 : Option Addr) (vc fc vc2 fc2 : Nat) (w : World) (a1 : At w B VA x.vals) (a2 : At w B FA x.frames) (b1 : At w B VA2 x.vals) (b2 : At w B FA2 x.frames) (hB : B ≤ w.heap.size) (hr : x.vals.length ≤ maxLen) (ht : x.frames.length ≤ maxLen) :
    Calls Tryz.prog 42 #[.agg #[.int .i64 x.kind, .int .i64 x.num, .slice VA x.vals.length vc, .slice FA x.frames.length fc], .agg #[.int .i64 x.kind, .int .i64 x.num, .slice VA2 x.vals.length vc2, .slice FA2 x.frames.length fc2]] w (TrueP w) := by
  obtain ⟨P, hP⟩ : ∃ P, TrueP w = P := ⟨_, rfl⟩
  have HP := Lib.hid hP; rw [hP]; clear hP
  have H := Lib.hid (And.intro (a1) (And.intro (a2) (And.intro (b1) (b2))))
  clear a1 a2 b1 b2
  go_enter Tryz.func42, Tryz.ntmps42
  go_upto_region 1 with fail
  refine wp_world (fun W => Blk W w.heap.size 46 #[.int .i64 x.kind, .int .i64 x.num, .slice VA x.vals.length vc, .slice FA x.frames.length fc] ∧ Blk W (w.heap.size + 1) 46 #[.int .i64 x.kind, .int .i64 x.num, .slice VA2 x.vals.length vc2, .slice FA2 x.frames.length fc2] ∧ Below w.heap.size w W) (two_box w _ _ _) ?_
  rintro W ⟨g1, g2, hbW⟩
  have hc := eqP_any43 VA VA2 vc vc2 B _ _ x.vals x.vals W rfl rfl (H.out.1.below (hbW.mono hB)) (H.out.2.2.1.below (hbW.mono hB)) hr
  obtain ⟨q0, q1, q2, q3⟩ := g1.cells4
  obtain ⟨p0, p1, p2, p3⟩ := g2.cells4
  have HW := Lib.hid (And.intro (hc) (And.intro (hbW) (And.intro (g1) (g2))))
  clear hc hbW g1 g2
  go_wp2_with fail
  refine HW.out.1.mono ?_
  rintro e w1 ⟨b, rfl, hb, hb1⟩
  obtain rfl : b = true := hb.2 trivial
  have hb01 : Below w.heap.size w w1 := HW.out.2.1.trans (hb1.mono HW.out.2.1.size)
  have hs1 := hb01.size
  have hc := sameFrames_any B _ fc fc2 FA FA2 x.frames w1 rfl (H.out.2.1.below (hb01.mono hB)) (H.out.2.2.2.below (hb01.mono hB)) (by omega) ht
  clear q0 q1 q2 q3 p0 p1 p2 p3
  have q6 := (HW.out.2.2.1.fresh hb1).cell 3 (v := .slice FA x.frames.length fc) rfl
  have p6 := (HW.out.2.2.2.fresh hb1).cell 3 (v := .slice FA2 x.frames.length fc2) rfl
  have H1 := Lib.hid (And.intro (hc) (hb01))
  clear hc hb01 hb1 hb
  go_wp2_with fail
  refine H1.out.1.mono ?_
  rintro e w2 ⟨rfl, hb2⟩
  have hfin : P (.returned (.bool true)) w2 := by rw [← HP.out]; exact ⟨rfl, H1.out.2.trans (hb2.mono H1.out.2.size)⟩
  have H2 := Lib.hid (hfin)
  clear hfin hb2
  go_wp2_with fail
  exact H2.out
set_option maxHeartbeats 1600000 in
set_option maxRecDepth 100000 in
theorem sameThread_any (B : Nat) (x : Th) (FA FA2 : Option Addr) (fc fc2 : Nat) (w : World) (a1 : At w B FA x.frames) (b1 : At w B FA2 x.frames) (hB : B ≤ w.heap.size) (ht : x.frames.length ≤ maxLen) :
    Calls Tryz.prog 48 #[.agg #[.slice FA x.frames.length fc, .int .i64 x.state, .int .i64 x.on, .int .i64 x.val.1, .int .i64 x.val.2], .agg #[.slice FA2 x.frames.length fc2, .int .i64 x.state, .int .i64 x.on, .int .i64 x.val.1, .int .i64 x.val.2]] w (TrueP w) := by
  obtain ⟨P, hP⟩ : ∃ P, TrueP w = P := ⟨_, rfl⟩
  have HP := Lib.hid hP; rw [hP]; clear hP
  have H := Lib.hid (And.intro (a1) (b1))
  clear a1 b1
  go_enter Tryz.func48, Tryz.ntmps48
  go_upto_region 1 with fail
  refine wp_world (fun W => Blk W w.heap.size 98 #[.slice FA x.frames.length fc, .int .i64 x.state, .int .i64 x.on, .int .i64 x.val.1, .int .i64 x.val.2] ∧ Blk W (w.heap.size + 1) 98 #[.slice FA2 x.frames.length fc2, .int .i64 x.state, .int .i64 x.on, .int .i64 x.val.1, .int .i64 x.val.2] ∧ Below w.heap.size w W) (two_box w _ _ _) ?_
  rintro W ⟨g1, g2, hbW⟩
  have hs1 := hbW.size
  have hc := sameFrames_any B _ fc fc2 FA FA2 x.frames W rfl (H.out.1.below (hbW.mono hB)) (H.out.2.below (hbW.mono hB)) (by omega) ht
  have q0 := g1.cell 0 (v := .slice FA x.frames.length fc) rfl
  have q1 := g1.cell 1 (v := .int .i64 x.state) rfl
  have q2 := g1.cell 2 (v := .int .i64 x.on) rfl
  have q3 := g1.cell 3 (v := .int .i64 x.val.1) rfl
  have q4 := g1.cell 4 (v := .int .i64 x.val.2) rfl
  have p0 := g2.cell 0 (v := .slice FA2 x.frames.length fc2) rfl
  have p1 := g2.cell 1 (v := .int .i64 x.state) rfl
  have p2 := g2.cell 2 (v := .int .i64 x.on) rfl
  have p3 := g2.cell 3 (v := .int .i64 x.val.1) rfl
  have p4 := g2.cell 4 (v := .int .i64 x.val.2) rfl
  have HW := Lib.hid (And.intro (hc) (hbW))
  clear hc hbW g1 g2
  go_wp2_with fail
  refine HW.out.1.mono ?_
  rintro e w2 ⟨rfl, hb2⟩
  have hfin : P (.returned (.bool true)) w2 := by rw [← HP.out]; exact ⟨rfl, HW.out.2.trans (hb2.mono HW.out.2.size)⟩
  have H2 := Lib.hid (hfin)
  clear hfin hb2
  go_wp2_with fail
  exact H2.out
end Top
end Go.Proofs.YtdlcooplllimeaaGreatDoor
