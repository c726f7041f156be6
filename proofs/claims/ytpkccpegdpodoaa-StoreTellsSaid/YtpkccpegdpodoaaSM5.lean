/-
  A store, played against the document by any deeds with any values, is as the document says. No condition beyond the form's own.
-/
import Derived.Test.YtpkccpegdpodoaaSM1
import Derived.Test.YtpkccpegdpodoaaSM2
import Derived.Test.YtpkccpegdpodoaaSM3
import Derived.Test.YtpkccpegdpodoaaSM4
import Derived.Deep.CutRange
import Derived.Deep.CutBlock
import Derived.Test.YtpkccpegdpodoaaRows
import Derived.ProofKit
import Derived.OpenShut
import Derived.JoinedCond
import Derived.Deep.CondSized
/- store.Make, told by the shelf. -/
namespace Go.Proofs.Ytpkccpegdpodoaa
open Go.RowKit Go.Maps

attribute [local go_sem ↓] Go.wp_at_zero Go.wp_at_succ

section
variable {w w6 : World} {base p c6 : Nat} {F G : Nat → Prop} {ws : List U64} {pl : List Int} {hd : List Bool} {WA AA HA A6 : Option Addr} {cw ac hc nm : Nat}
/-- one place more -/
theorem SoL.appA {r : List Int} (h : SoL w base F p ws pl hd WA AA HA cw ac hc) (ho : Own w6 base 3 A6 c6 (pl ++ r)) (hgr : w.grownBy w6 (rowOf AA)) (hnm : (pl ++ r).length = nm)
    (hF : ∀ g, F g → G g) (hG : ∀ g, rowOf A6 = some g → G g) (hr : ∀ x ∈ r, Flat.ok x) : SoL (w6.setCell ⟨p, 1, none⟩ (.slice A6 nm c6)) base G p ws (pl ++ r) hd WA A6 HA cw c6 hc := by
  subst hnm
  have nWp : rowOf AA ≠ some p := own_ne_ty h.places h.blk (by decide)
  have hblk := h.blk.grown hgr nWp
  have hww : Own w6 base 24 WA cw ws := h.words.block_ (fun g hg => hgr.block g (h.words.lt g hg).2 (fun e => own_own_ty h.words h.places (by decide) g hg e.symm))
  have hhd : Own w6 base 4 HA hc hd := h.helds.block_ (fun g hg => hgr.block g (h.helds.lt g hg).2 (fun e => own_own_ty h.helds h.places (by decide) g hg e.symm))
  refine ⟨hblk.set_ 1 _, hww.setCell _ _ (own_ne_ty hww hblk (by decide)), ho.setCell _ _ (own_ne_ty ho hblk (by decide)), hhd.setCell _ _ (own_ne_ty hhd hblk (by decide)), ⟨hF p h.foot.1, h.foot.2⟩, fun g hg => hF g (h.footW g hg), hG, fun g hg => hF g (h.footH g hg), h.okW, fun x hx => ?_⟩
  rcases List.mem_append.1 hx with hx | hx
  · exact h.okA x hx
  · exact hr x hx
/-- one more that is held or not -/
theorem SoL.appH {r : List Bool} (h : SoL w base F p ws pl hd WA AA HA cw ac hc) (ho : Own w6 base 4 A6 c6 (hd ++ r)) (hgr : w.grownBy w6 (rowOf HA)) (hnm : (hd ++ r).length = nm)
    (hF : ∀ g, F g → G g) (hG : ∀ g, rowOf A6 = some g → G g) : SoL (w6.setCell ⟨p, 2, none⟩ (.slice A6 nm c6)) base G p ws pl (hd ++ r) WA AA A6 cw ac c6 := by
  subst hnm
  have nWp : rowOf HA ≠ some p := own_ne_ty h.helds h.blk (by decide)
  have hblk := h.blk.grown hgr nWp
  have hww : Own w6 base 24 WA cw ws := h.words.block_ (fun g hg => hgr.block g (h.words.lt g hg).2 (fun e => own_own_ty h.words h.helds (by decide) g hg e.symm))
  have hpl : Own w6 base 3 AA ac pl := h.places.block_ (fun g hg => hgr.block g (h.places.lt g hg).2 (fun e => own_own_ty h.places h.helds (by decide) g hg e.symm))
  exact ⟨hblk.set_ 2 _, hww.setCell _ _ (own_ne_ty hww hblk (by decide)), hpl.setCell _ _ (own_ne_ty hpl hblk (by decide)), ho.setCell _ _ (own_ne_ty ho hblk (by decide)), ⟨hF p h.foot.1, h.foot.2⟩, fun g hg => hF g (h.footW g hg), fun g hg => hF g (h.footA g hg), hG, h.okW, h.okA⟩
end
theorem infoBoolS : (Try.prog.info? 4).map (fun i => (i.zero, i.size, i.bytes)) = some (some (.bool false), 1, 1) := by kernel_rfl

namespace Sto
open Hau
/-- what is wrong with a new cell -/
noncomputable def maE (cs : List Kp) (m : Int) : Int := if m < 0 ∨ 2147483647 < m then 1 else if 100 ≤ cs.length ∨ 2000 < sW cs cs.length + 1 then 2 else 0
def newK (cs : List Kp) (m : Int) : List Kp := cs ++ [⟨m, [], true⟩]
def MaPost (w : World) (base p u0 : Nat) (m : Int) (F : Nat → Prop) (cs : List Kp) (E : Int) (e : Ending) (w' : World) : Prop :=
  e = .returned (.tuple #[.int .i64 (if E = 0 then (cs.length : Int) else 0), .int .i64 E]) ∧ (∃ u', StU w' base (Up F w w') p (if E = 0 then newK cs m else cs) u' ∧ u' ≤ u0 + 1) ∧ Touch F w w'

set_option maxHeartbeats 1600000 in
set_option maxRecDepth 100000 in
theorem st_make (w : World) (base p u0 : Nat) (m : Int) (F : Nat → Prop) (cs : List Kp) (h : StU w base F p cs u0) (hF : ∀ g, F g → g < w.heap.size) :
    Calls Try.prog 62 #[.pointer (some ⟨p, 0, none⟩), .int .i64 m] w (MaPost w base p u0 m F cs (maE cs m)) := by
  obtain ⟨i0, hi, hz0, hz1, hz2⟩ := info_partsH infoU64H
  obtain ⟨j0, hj, hy0, hy1, hy2⟩ := info_partsH infoIntH
  obtain ⟨l0, hl, hx0, hx1, hx2⟩ := info_partsH infoBoolS
  obtain ⟨E, hE⟩ : ∃ E, maE cs m = E := ⟨_, rfl⟩
  rw [hE]
  obtain ⟨P, hP⟩ : ∃ P, MaPost w base p u0 m F cs E = P := ⟨_, rfl⟩
  rw [hP]
  have hkeep : ∃ u', StU w base (Up F w w) p cs u' ∧ u' ≤ u0 + 1 := ⟨u0, h.mono (fun g hg => .inl hg), by omega⟩
  have H := Lib.hid (And.intro h (And.intro hF (And.intro hE hP))); clear h hF hE hP
  by_cases h1 : m < 0
  · have d1 : decide (m < 0) = true := by simpa using h1
    have hEE : E = 1 := by rw [← H.out.2.2.1]; unfold maE; rw [if_pos (.inl h1)]
    subst hEE
    have HK := Lib.hid hkeep; clear hkeep h1
    go_enter Try.func62, Try.ntmps62
    go_wp2_with fail
    rw [← H.out.2.2.2]
    exact ⟨rfl, HK.out, Touch.refl _ _⟩
  have d1 : decide (m < 0) = false := by simpa using h1
  by_cases h2 : 2147483648 ≤ m
  · have hEE : E = 1 := by rw [← H.out.2.2.1]; unfold maE; rw [if_pos (.inr (by omega))]
    subst hEE
    have HK := Lib.hid hkeep; clear hkeep h1
    go_enter Try.func62, Try.ntmps62
    go_wp2_with fail
    rw [← H.out.2.2.2]
    exact ⟨rfl, HK.out, Touch.refl _ _⟩
  obtain ⟨obs, pl, hso, hr, -⟩ := H.out.1
  obtain ⟨WA, AA, HA, cw, ac, hcc, hSL⟩ := hso
  have hres := H.out.2.2.1
  unfold maE at hres
  rw [if_neg (by omega)] at hres
  have hlen := hr.len
  have hmany := hr.many
  have hsw := hr.sW_le
  have hsm := hr.small
  have c1 := hSL.blk.cell 1 (v := .slice AA pl.length ac) rfl
  obtain ⟨n, hn⟩ : ∃ x, pl.length = x := ⟨_, rfl⟩
  rw [hn] at c1 hlen
  by_cases h3 : 100 ≤ cs.length
  · have d3 : (100 : Int) ≤ (n : Int) := by omega
    have hEE : E = 2 := by rw [← hres, if_pos (.inl h3)]
    subst hEE
    have HK := Lib.hid hkeep; clear hkeep h1 hr hSL hres hsw
    go_enter Try.func62, Try.ntmps62
    go_wp2_with fail
    rw [← H.out.2.2.2]
    exact ⟨rfl, HK.out, Touch.refl _ _⟩
  have d3 : ¬ (100 : Int) ≤ (n : Int) := by omega
  have hnd := st_needs w base p F cs H.out.1.st
  obtain ⟨S, hSE⟩ : ∃ x, sW cs cs.length = x := ⟨_, rfl⟩
  rw [hSE] at hres hnd hsw
  have e1 : IntKind.i64.wrap ((S : Int) + 1) = (S : Int) + 1 := IntWalk.i64_in _ (by omega)
  by_cases h4 : 2000 < S + 1
  · have d4 : (2000 : Int) < (S : Int) + 1 := by omega
    have hEE : E = 2 := by rw [← hres, if_pos (.inr h4)]
    subst hEE
    have HK := Lib.hid (And.intro hkeep hnd); clear hkeep hnd h1 hr hSL hres hsw hSE
    go_enter Try.func62, Try.ntmps62
    go_wp2_with fail
    refine HK.out.2.mono ?_
    rintro e w1 ⟨rfl, hb1⟩
    clear c1
    go_wp2_with fail
    rw [← H.out.2.2.2]
    exact ⟨rfl, by rw [if_neg (by decide)]; exact ⟨u0, (H.out.1.fresh hb1).mono (fun g hg => .inl hg), by omega⟩, Touch.ofBelow hb1⟩
  have d4 : ¬ (2000 : Int) < (S : Int) + 1 := by omega
  have hEE : E = 0 := by rw [← hres, if_neg (by omega)]
  subst hEE
  have HK := Lib.hid (And.intro hkeep (And.intro hnd (And.intro hSE hlen))); clear hkeep hnd h1 hr hSL hres hsw hSE hlen
  go_enter Try.func62, Try.ntmps62
  go_wp2_with fail
  refine HK.out.2.1.mono ?_
  rintro e w1 ⟨rfl, hb1⟩
  have hs1 := hb1.size
  have hrm := st_room w1 base p 1 u0 F cs (H.out.1.fresh hb1) (fun g hg => by have := H.out.2.1 g hg; omega) (by omega)
  have HR := Lib.hid (And.intro hb1 hrm); clear hb1 hrm c1
  go_wp2_with fail
  refine HR.out.2.mono ?_
  rintro e w2 ⟨r, rfl, hR, hT⟩
  obtain ⟨obs2, pl2, hso2, hr2, hrt, hrf, hru⟩ := hR
  cases r with
  | false => exact absurd (hrf rfl).1 (by rw [HK.out.2.2.1]; omega)
  | true =>
    have hroom := hrt rfl
    have hbp : base ≤ p := by obtain ⟨_, _, _, _, _, _, h⟩ := hso2; exact h.foot.2
    obtain ⟨WA, AA, HA, cw, ac, hcc, hSL⟩ := hso2
    have hs2 := hT.size
    have hn2 : pl2.length = n := by rw [hr2.len, ← HK.out.2.2.2]
    have hbs : base ≤ w2.heap.size := by have := hSL.blk.lt; omega
    have c1 := hSL.blk.cell 1 (v := .slice AA pl2.length ac) rfl
    rw [hn2] at c1
    have c0 := hSL.blk.cell 0 (v := .slice WA obs2.flatten.length cw) rfl
    obtain ⟨nW, hnW⟩ : ∃ x, obs2.flatten.length = x := ⟨_, rfl⟩
    rw [hnW] at c0 hroom hru
    have hplt := hSL.blk.lt
    have HS := Lib.hid (And.intro hSL (And.intro hr2 (And.intro hT (And.intro hn2 hnW)))); clear hSL hr2 hT hn2 hnW hrt hrf
    go_upto_region 5 with fail
    go_cut [] from 31 to 44 (fun W2 => ∃ A2 c2, Hid (SoL W2 base (Up F w1 W2) p obs2.flatten (pl2 ++ [(nW : Int)]) (cs.map Kp.held) WA A2 HA cw c2 hcc) ∧ Touch F w1 W2)
    case first =>
      have BX : Below w2.heap.size w2 w2.drew := (Below.refl _ _).drew
      refine wp_region_held_drew (S := (fun w' => w'.cell? ⟨p, 0, none⟩ = some (.slice WA nW cw))) (by kernel_rfl) ?_ (fun hHeld0 => ?_)
      · first | trivial | ((try dsimp only); (exact c0))
      refine held_take (v := ?_) 0 rfl (by kernel_rfl) (by kernel_rfl) (by kernel_rfl) (fun _ _ _ h => h) (by rfl) ?_ (by assumption) ?_
      rotate_left
      · (intro w hSw; (try dsimp only at hSw); go_simp; try with_reducible rfl)
      try simp only [Act.put, List.setIfInBounds_toArray, List.set_cons_zero, List.set_cons_succ]
      refine held_take (v := ?_) 1 rfl (by kernel_rfl) (by kernel_rfl) (by kernel_rfl) (fun _ _ _ h => h) (by rfl) ?_ (by assumption) ?_
      rotate_left
      · (intro w hSw; (try dsimp only at hSw); go_simp; try with_reducible rfl)
      try simp only [Act.put, List.setIfInBounds_toArray, List.set_cons_zero, List.set_cons_succ]
      refine held_take (v := ?_) 2 rfl (by kernel_rfl) (by kernel_rfl) (by kernel_rfl) (fun _ _ _ h => h) (by rfl) ?_ (by assumption) ?_
      rotate_left
      · (intro w hSw; (try dsimp only at hSw); go_simp; try with_reducible rfl)
      try simp only [Act.put, List.setIfInBounds_toArray, List.set_cons_zero, List.set_cons_succ]
      refine held_take (v := ?_) 3 rfl (by kernel_rfl) (by kernel_rfl) (by kernel_rfl) (fun _ _ _ h => h) (by rfl) ?_ (by assumption) ?_
      rotate_left
      · (intro w hSw; (try dsimp only at hSw); go_simp; try with_reducible rfl)
      try simp only [Act.put, List.setIfInBounds_toArray, List.set_cons_zero, List.set_cons_succ]
      refine held_take (v := ?_) 5 rfl (by kernel_rfl) (by kernel_rfl) (by kernel_rfl) (fun _ _ _ h => h) (by rfl) ?_ (by assumption) ?_
      rotate_left
      · (intro w hSw; (try dsimp only at hSw); go_simp; try with_reducible rfl)
      try simp only [Act.put, List.setIfInBounds_toArray, List.set_cons_zero, List.set_cons_succ]
      refine held_take (v := ?_) 6 rfl (by kernel_rfl) (by kernel_rfl) (by kernel_rfl) (fun _ _ _ h => h) (by rfl) ?_ (by assumption) ?_
      rotate_left
      · (intro w hSw; (try dsimp only at hSw); go_simp; try with_reducible rfl)
      try simp only [Act.put, List.setIfInBounds_toArray, List.set_cons_zero, List.set_cons_succ]
      refine held_take (v := ?_) 7 rfl (by kernel_rfl) (by kernel_rfl) (by kernel_rfl) (fun _ _ _ h => h) (by rfl) ?_ (by assumption) ?_
      rotate_left
      · (intro w hSw; (try dsimp only at hSw); go_simp; try with_reducible rfl)
      try simp only [Act.put, List.setIfInBounds_toArray, List.set_cons_zero, List.set_cons_succ]
      refine held_take (v := ?_) 8 rfl (by kernel_rfl) (by kernel_rfl) (by kernel_rfl) (fun _ _ _ h => h) (by rfl) ?_ (by assumption) ?_
      rotate_left
      · (intro w hSw; (try dsimp only at hSw); go_simp; try with_reducible rfl)
      try simp only [Act.put, List.setIfInBounds_toArray, List.set_cons_zero, List.set_cons_succ]
      refine held_take (v := ?_) 9 rfl (by kernel_rfl) (by kernel_rfl) (by kernel_rfl) (fun _ _ _ h => h) (by rfl) ?_ (by assumption) ?_
      rotate_left
      · (intro w hSw; (try dsimp only at hSw); go_simp; try with_reducible rfl)
      try simp only [Act.put, List.setIfInBounds_toArray, List.set_cons_zero, List.set_cons_succ]
      refine held_call2 4 10 (by kernel_rfl) rfl rfl (fun K hK => ?_) (fun K hK => ?_)
      · go_simp
        refine hK.out _ _ ?_ (fun hHeld1 => ?_)
        · first | trivial | ((try dsimp only); (exact c0))
        clear hK K hHeld0
        try simp only [Act.put, List.setIfInBounds_toArray, List.set_cons_zero, List.set_cons_succ]
        refine held_call 10 (by kernel_rfl) rfl (fun K hK => ?_)
        go_simp
        refine hK.out _ _ ?_ (fun hHeld2 => ?_)
        · first | trivial | ((try dsimp only); (exact ((BX.alloc BX.size _).cell (p := ⟨p, 0, none⟩) hplt).trans c0))
        clear hK K hHeld1
        try simp only [Act.put, List.setIfInBounds_toArray, List.set_cons_zero, List.set_cons_succ]
        refine held_call 11 (by kernel_rfl) rfl (fun K hK => ?_)
        refine step_app (α := Int) (n := n) (m := 1) (nm := n + 1) (r := [(nW : Int)]) (by rfl) (.tmp 35) (.tmp 41) _ (by rfl) base 3 j0 _ 8 Try.underlying47 hj hy0 hy1 hy2 rfl (by decide) int_oneH (by rfl) HS.out.2.2.2.1 (HS.out.1.places.drew.alloc _) (B := w2.heap.size + 1) (X := some ⟨w2.heap.size, 0, none⟩) (d := 1) (by rfl) (At.built w2.drew _ _ [(nW : Int)] rfl (by intro u hu; simp at hu; subst hu; exact (by unfold I64; omega : I64 (nW : Int)))) rfl rfl (by omega) (by simp only [maxLen]; omega) (by simp; omega) ?_; intro A6 c6 w6 ho6 hgr6 hat6; have hS6 := (HS.out.1.keep (w' := w2.drew) (fun _ _ _ => rfl)).fresh ((Below.refl _ _).alloc (Nat.le_refl _) (.cells #[.int .i64 (nW : Int)] 3)); have hp6 := hS6.blk.grown hgr6 (own_ne_ty hS6.places hS6.blk (by decide)); have p60 := hp6.cell 0 (v := .slice WA obs2.flatten.length cw) rfl; rw [HS.out.2.2.2.2] at p60; have p61 := hp6.cell 1 (v := .slice AA pl2.length ac) rfl; have z61 := hp6.frozen 1; have p62 := (hp6.set_ 1 (.slice A6 (n + 1) c6)).cell 0 (v := .slice WA obs2.flatten.length cw) rfl; rw [HS.out.2.2.2.2] at p62
        refine hK.out _ _ ?_ (fun hHeld3 => ?_)
        · first | trivial | ((try dsimp only); (exact p60))
        clear hK K hHeld2
        try simp only [Act.put, List.setIfInBounds_toArray, List.set_cons_zero, List.set_cons_succ]
        refine held_take (v := ?_) 12 rfl (by kernel_rfl) (by kernel_rfl) (by kernel_rfl) (fun _ _ _ h => h) (by rfl) ?_ (by assumption) ?_
        rotate_left
        · (intro w hSw; (try dsimp only at hSw); go_simp; try with_reducible rfl)
        try simp only [Act.put, List.setIfInBounds_toArray, List.set_cons_zero, List.set_cons_succ]
        refine held_take (v := ?_) 13 rfl (by kernel_rfl) (by kernel_rfl) (by kernel_rfl) (fun _ _ _ h => h) (by rfl) ?_ (by assumption) ?_
        rotate_left
        · (intro w hSw; (try dsimp only at hSw); go_simp; try with_reducible rfl)
        try simp only [Act.put, List.setIfInBounds_toArray, List.set_cons_zero, List.set_cons_succ]
        refine held_call 14 (by kernel_rfl) rfl (fun K hK => ?_)
        go_simp
        refine hK.out _ _ ?_ (fun hHeld4 => ?_)
        · first | trivial | ((try dsimp only); (exact p62))
        clear hK K hHeld3
        try simp only [Act.put, List.setIfInBounds_toArray, List.set_cons_zero, List.set_cons_succ]
        refine wpAnyH_done (by kernel_rfl) ?_ _
        go_wp2_with fail
        go_meet
        have hs6 := hgr6.size
        simp only [World.size_alloc, World.size_drew] at hs6
        have hx6 : (w6.setCell ⟨p, 1, none⟩ (.slice A6 (n + 1) c6)).heap.size = w6.heap.size := by simp [World.setCell]
        have hSf := hS6.appA (G := Up F w1 (w6.setCell ⟨p, 1, none⟩ (.slice A6 (n + 1) c6))) ho6 hgr6 (by rw [List.length_append, HS.out.2.2.2.1, List.length_singleton]) (fun g hg => Up.more (by rw [hx6]; omega) hg) (fun g hg => by rcases hat6 with e | e; exact Up.more (w1 := w2) (by rw [hx6]; omega) (HS.out.1.footA g (by rw [← e]; exact hg)); exact .inr ⟨by rw [hg] at e; injection e with e; simp only [World.size_alloc, World.size_drew] at e; omega, by rw [hx6]; exact (ho6.lt g hg).2⟩) (by intro u hu; simp at hu; subst hu; exact (by unfold I64; omega : I64 (nW : Int)))
        have hT6 := HS.out.2.2.1.join ((((Touch.refl (Up F w1 w2) w2).drew.alloc (.cells #[.int .i64 (nW : Int)] 3)).grown hgr6 (fun g hg => HS.out.1.footA g hg)).setCell (p := ⟨p, 1, none⟩) HS.out.1.foot.1 (.slice A6 (n + 1) c6))
        exact ⟨A6, c6, by unfold Hid; exact hSf, hT6⟩
      · go_simp
        refine hK.out _ _ ?_ (fun hHeld1 => ?_)
        · first | trivial | ((try dsimp only); (exact ((BX.alloc BX.size _).cell (p := ⟨p, 0, none⟩) hplt).trans c0))
        clear hK K hHeld0
        try simp only [Act.put, List.setIfInBounds_toArray, List.set_cons_zero, List.set_cons_succ]
        refine held_call 4 (by kernel_rfl) rfl (fun K hK => ?_)
        go_simp
        refine hK.out _ _ ?_ (fun hHeld2 => ?_)
        · first | trivial | ((try dsimp only); (exact ((BX.alloc BX.size _).cell (p := ⟨p, 0, none⟩) hplt).trans c0))
        clear hK K hHeld1
        try simp only [Act.put, List.setIfInBounds_toArray, List.set_cons_zero, List.set_cons_succ]
        refine held_call 11 (by kernel_rfl) rfl (fun K hK => ?_)
        refine step_app (α := Int) (n := n) (m := 1) (nm := n + 1) (r := [(nW : Int)]) (by rfl) (.tmp 35) (.tmp 41) _ (by rfl) base 3 j0 _ 8 Try.underlying47 hj hy0 hy1 hy2 rfl (by decide) int_oneH (by rfl) HS.out.2.2.2.1 (HS.out.1.places.drew.alloc _) (B := w2.heap.size + 1) (X := some ⟨w2.heap.size, 0, none⟩) (d := 1) (by rfl) (At.built w2.drew _ _ [(nW : Int)] rfl (by intro u hu; simp at hu; subst hu; exact (by unfold I64; omega : I64 (nW : Int)))) rfl rfl (by omega) (by simp only [maxLen]; omega) (by simp; omega) ?_; intro A6 c6 w6 ho6 hgr6 hat6; have hS6 := (HS.out.1.keep (w' := w2.drew) (fun _ _ _ => rfl)).fresh ((Below.refl _ _).alloc (Nat.le_refl _) (.cells #[.int .i64 (nW : Int)] 3)); have hp6 := hS6.blk.grown hgr6 (own_ne_ty hS6.places hS6.blk (by decide)); have p60 := hp6.cell 0 (v := .slice WA obs2.flatten.length cw) rfl; rw [HS.out.2.2.2.2] at p60; have p61 := hp6.cell 1 (v := .slice AA pl2.length ac) rfl; have z61 := hp6.frozen 1; have p62 := (hp6.set_ 1 (.slice A6 (n + 1) c6)).cell 0 (v := .slice WA obs2.flatten.length cw) rfl; rw [HS.out.2.2.2.2] at p62
        refine hK.out _ _ ?_ (fun hHeld3 => ?_)
        · first | trivial | ((try dsimp only); (exact p60))
        clear hK K hHeld2
        try simp only [Act.put, List.setIfInBounds_toArray, List.set_cons_zero, List.set_cons_succ]
        refine held_take (v := ?_) 12 rfl (by kernel_rfl) (by kernel_rfl) (by kernel_rfl) (fun _ _ _ h => h) (by rfl) ?_ (by assumption) ?_
        rotate_left
        · (intro w hSw; (try dsimp only at hSw); go_simp; try with_reducible rfl)
        try simp only [Act.put, List.setIfInBounds_toArray, List.set_cons_zero, List.set_cons_succ]
        refine held_take (v := ?_) 13 rfl (by kernel_rfl) (by kernel_rfl) (by kernel_rfl) (fun _ _ _ h => h) (by rfl) ?_ (by assumption) ?_
        rotate_left
        · (intro w hSw; (try dsimp only at hSw); go_simp; try with_reducible rfl)
        try simp only [Act.put, List.setIfInBounds_toArray, List.set_cons_zero, List.set_cons_succ]
        refine held_call 14 (by kernel_rfl) rfl (fun K hK => ?_)
        go_simp
        refine hK.out _ _ ?_ (fun hHeld4 => ?_)
        · first | trivial | ((try dsimp only); (exact p62))
        clear hK K hHeld3
        try simp only [Act.put, List.setIfInBounds_toArray, List.set_cons_zero, List.set_cons_succ]
        refine wpAnyH_done (by kernel_rfl) ?_ _
        go_wp2_with fail
        go_meet
        have hs6 := hgr6.size
        simp only [World.size_alloc, World.size_drew] at hs6
        have hx6 : (w6.setCell ⟨p, 1, none⟩ (.slice A6 (n + 1) c6)).heap.size = w6.heap.size := by simp [World.setCell]
        have hSf := hS6.appA (G := Up F w1 (w6.setCell ⟨p, 1, none⟩ (.slice A6 (n + 1) c6))) ho6 hgr6 (by rw [List.length_append, HS.out.2.2.2.1, List.length_singleton]) (fun g hg => Up.more (by rw [hx6]; omega) hg) (fun g hg => by rcases hat6 with e | e; exact Up.more (w1 := w2) (by rw [hx6]; omega) (HS.out.1.footA g (by rw [← e]; exact hg)); exact .inr ⟨by rw [hg] at e; injection e with e; simp only [World.size_alloc, World.size_drew] at e; omega, by rw [hx6]; exact (ho6.lt g hg).2⟩) (by intro u hu; simp at hu; subst hu; exact (by unfold I64; omega : I64 (nW : Int)))
        have hT6 := HS.out.2.2.1.join ((((Touch.refl (Up F w1 w2) w2).drew.alloc (.cells #[.int .i64 (nW : Int)] 3)).grown hgr6 (fun g hg => HS.out.1.footA g hg)).setCell (p := ⟨p, 1, none⟩) HS.out.1.foot.1 (.slice A6 (n + 1) c6))
        exact ⟨A6, c6, by unfold Hid; exact hSf, hT6⟩
    case rest =>
      obtain ⟨A2, c2, hX, hT2⟩ := hcut
      have hS3 := hX.out
      have hsc := hT2.size
      have hhl : (cs.map Kp.held).length = n := by rw [List.length_map, HK.out.2.2.2]
      have d2 := hS3.blk.cell 2 (v := .slice HA (cs.map Kp.held).length hcc) rfl
      rw [hhl] at d2
      have hpl3 := hS3.blk.lt
      have H3 := Lib.hid (And.intro hS3 (And.intro hT2 hhl)); clear hS3 hT2 hX c0 c1 hhl
      go_upto_region 7 with (at_builtin; go_must (refine wpList_app (α := Bool) (n := n) (m := 1) (B := wc.heap.size + 1) (r := [true]) rfl (.tmp 49) (.tmp 50) _ rfl base 4 l0 _ 1 Try.underlying60 hl hx0 hx1 hx2 rfl (by decide) bool_one (by rfl) H3.out.2.2 (H3.out.1.helds.alloc _) (by rfl) (At.built wc _ _ [true] rfl (fun _ _ => trivial)) rfl (by omega) (by simp only [maxLen]; omega) (by simp; omega) ?_); intro A6 c6 w6 ho6 hgr6 hat6; have hs6 := hgr6.size; simp only [World.size_alloc] at hs6; have hS6 := H3.out.1.fresh ((Below.refl wc.heap.size wc).alloc (Nat.le_refl _) (.cells #[.bool true] 4)); have hp6 := hS6.blk.grown hgr6 (own_ne_ty hS6.helds hS6.blk (by decide)); have z62 := hp6.frozen 2; have p62 := hp6.cell 2 (v := .slice HA (cs.map Kp.held).length hcc) rfl; have HF := Lib.hid (And.intro ho6 (And.intro hgr6 (And.intro hat6 hS6))); clear ho6 hgr6 hat6 hS6 hp6)
      have hx6 : (w6.setCell ⟨p, 2, none⟩ (.slice A6 (n + 1) c6)).heap.size = w6.heap.size := by simp [World.setCell]
      refine wp_world (fun V => Hid (SoL V base (Up F w1 V) p obs2.flatten (pl2 ++ [(nW : Int)]) (cs.map Kp.held ++ [true]) WA A2 A6 cw c2 c6) ∧ Touch F w1 V) ⟨by
        unfold Hid
        refine HF.out.2.2.2.appH (G := Up F w1 (w6.setCell ⟨p, 2, none⟩ (.slice A6 (n + 1) c6))) HF.out.1 HF.out.2.1 (by rw [List.length_append, H3.out.2.2, List.length_singleton]) (fun g hg => Up.more (by rw [hx6]; omega) hg) (fun g hg => ?_)
        rcases HF.out.2.2.1 with e | e
        · exact Up.more (w1 := wc) (by rw [hx6]; omega) (H3.out.1.footH g (by rw [← e]; exact hg))
        · rw [hg] at e; injection e with e; simp only [World.size_alloc] at e; exact .inr ⟨by omega, by rw [hx6]; exact (HF.out.1.lt g hg).2⟩, ?_⟩ ?_
      · exact H3.out.2.1.join ((((Touch.refl (Up F w1 wc) wc).alloc (.cells #[.bool true] 4)).grown HF.out.2.1 (fun g hg => H3.out.1.footH g hg)).setCell (p := ⟨p, 2, none⟩) H3.out.1.foot.1 (.slice A6 (n + 1) c6))
      rintro V ⟨hSV, hTV⟩
      clear d2 z62 p62
      have hsV := hTV.size
      have hS7 := hSV.out
      have f0 := hS7.blk.cell 0 (v := .slice WA obs2.flatten.length cw) rfl
      rw [HS.out.2.2.2.2] at f0
      have hplV := hS7.blk.lt
      have hm0 : 0 ≤ m := by simpa using d1
      have u1 : IntKind.u64.wrap m = m := by rw [IntKind.wrap_u64]; omega
      have u2 : IntKind.u64.wrap (m * 4294967296) = m * 4294967296 := by rw [IntKind.wrap_u64]; omega
      have hok7 : Flat.ok (⟨m * 4294967296⟩ : U64) := ⟨by show 0 ≤ m * 4294967296; omega, by show m * 4294967296 ≤ _; omega⟩
      have H7 := Lib.hid (And.intro hS7 (And.intro hTV hok7)); clear hS7 hSV hTV hok7 HF H3
      go_upto_region 8 with (at_builtin; go_must (refine wpList_app (α := U64) (n := nW) (m := 1) (B := V.heap.size + 1) (r := [⟨m * 4294967296⟩]) rfl (.tmp 58) (.tmp 62) _ rfl base 24 i0 _ 8 Try.underlying39 hi hz0 hz1 hz2 rfl (by decide) u64_oneH (by rfl) HS.out.2.2.2.2 (H7.out.1.words.alloc _) (by rfl) (At.built V _ _ [(⟨m * 4294967296⟩ : U64)] rfl (by intro u hu; simp at hu; subst hu; exact H7.out.2.2)) rfl (by omega) (by simp only [maxLen]; omega) (by simp; omega) ?_); intro A8 c8 w8 ho8 hgr8 hat8; have hs8 := hgr8.size; simp only [World.size_alloc] at hs8; have hS8 := H7.out.1.fresh ((Below.refl V.heap.size V).alloc (Nat.le_refl _) (.cells #[.int .u64 (m * 4294967296)] 24)); have hp8 := hS8.blk.grown hgr8 (own_ne_ty hS8.words hS8.blk (by decide)); have z8 := hp8.frozen 0; have p8 := hp8.cell 0 (v := .slice WA obs2.flatten.length cw) rfl; have HF := Lib.hid (And.intro ho8 (And.intro hgr8 (And.intro hat8 hS8))); clear ho8 hgr8 hat8 hS8 hp8)
      have hx8 : (w8.setCell ⟨p, 0, none⟩ (.slice A8 (nW + 1) c8)).heap.size = w8.heap.size := by simp [World.setCell]
      refine wp_world (fun Z => Hid (SoL Z base (Up F w1 Z) p (obs2.flatten ++ [⟨m * 4294967296⟩]) (pl2 ++ [(nW : Int)]) (cs.map Kp.held ++ [true]) A8 A2 A6 c8 c2 c6) ∧ Touch F w1 Z) ⟨by
        unfold Hid
        refine HF.out.2.2.2.app (G := Up F w1 (w8.setCell ⟨p, 0, none⟩ (.slice A8 (nW + 1) c8))) HF.out.1 HF.out.2.1 (by rw [List.length_append, HS.out.2.2.2.2, List.length_singleton]) (fun g hg => Up.more (by rw [hx8]; omega) hg) (fun g hg => ?_) (by intro u hu; simp at hu; subst hu; exact H7.out.2.2)
        rcases HF.out.2.2.1 with e | e
        · exact Up.more (w1 := V) (by rw [hx8]; omega) (H7.out.1.footW g (by rw [← e]; exact hg))
        · rw [hg] at e; injection e with e; simp only [World.size_alloc] at e; exact .inr ⟨by omega, by rw [hx8]; exact (HF.out.1.lt g hg).2⟩, ?_⟩ ?_
      · exact H7.out.2.1.join ((((Touch.refl (Up F w1 V) V).alloc (.cells #[.int .u64 (m * 4294967296)] 24)).grown HF.out.2.1 (fun g hg => H7.out.1.footW g hg)).setCell (p := ⟨p, 0, none⟩) H7.out.1.foot.1 (.slice A8 (nW + 1) c8))
      rintro Z ⟨hSZ, hTZ⟩
      clear f0 z8 p8
      have hS9 := hSZ.out
      have f1 := hS9.blk.cell 1 (v := .slice A2 (pl2 ++ [(nW : Int)]).length c2) rfl
      rw [List.length_append, HS.out.2.2.2.1, List.length_singleton] at f1
      have e3 : IntKind.i64.wrap ((n : Int) + 1 - 1) = (n : Int) := by rw [IntWalk.i64_in _ (by omega)]; omega
      have hfin : ∃ u', StU Z base (Up F w Z) p (newK cs m) u' ∧ u' ≤ u0 + 1 := by
        refine ⟨nW + 1, ⟨obs2 ++ [[⟨m * 4294967296⟩]], pl2 ++ [(nW : Int)], ?_, ?_, by rw [List.flatten_append, List.length_append, HS.out.2.2.2.2]; rfl⟩, by omega⟩
        · rw [List.flatten_append]
          unfold newK
          rw [List.map_append]
          exact (hS9.so).mono (fun g hg => hg.elim .inl (fun h => .inr ⟨by omega, h.2⟩))
        · have := HS.out.2.1.make (m := m) (hw := ⟨m * 4294967296⟩) ⟨hm0, by omega⟩ rfl (by rw [HS.out.2.2.2.2]; omega) (by have := HK.out.2.2.2; omega)
          rw [HS.out.2.2.2.2] at this
          exact this
      have hTf : Touch F w Z := (Touch.ofBelow HR.out.1).trans hTZ
      have HZ := Lib.hid (And.intro hfin hTf); clear hfin hTf hS9 hSZ hTZ H7 HF
      go_wp2_with fail
      rw [← H.out.2.2.2]
      exact ⟨by rw [if_pos rfl, ← HK.out.2.2.2]; rfl, by rw [if_pos rfl]; exact HZ.out.1, HZ.out.2⟩
end Sto
end Go.Proofs.Ytpkccpegdpodoaa

/- The law's shelf: Make, Set. -/
namespace Go.Proofs.Ytpkccpegdpodoaa
open Go.RowKit

attribute [local go_sem ↓] Go.wp_at_zero Go.wp_at_succ

namespace Sto
def MkPost (w : World) (base q : Nat) (m : Int) (G : Nat → Prop) (cs : List Kp) (E : Int) (e : Ending) (w' : World) : Prop :=
  e = .returned (.tuple #[.int .i64 (if E = 0 then (cs.length : Int) else 0), .int .i64 E]) ∧ Shf w' base (Up G w w') q (if E = 0 then newK cs m else cs) ∧ Touch G w w'

set_option maxHeartbeats 1600000 in
set_option maxRecDepth 100000 in
theorem sh_make (w : World) (base q : Nat) (m : Int) (G : Nat → Prop) (cs : List Kp) (h : Shf w base G q cs) (hk : Kok cs) (hI : I64 m) :
    Calls Try.prog 63 #[.pointer (some ⟨q, 0, none⟩), .int .i64 m] w (MkPost w base q m G cs (maE cs m)) := by
  obtain ⟨i0, hi, hz0, hz1, hz2⟩ := info_partsH infoKept
  obtain ⟨E, hE⟩ : ∃ E, maE cs m = E := ⟨_, rfl⟩
  rw [hE]
  obtain ⟨P, hP⟩ : ∃ P, MkPost w base q m G cs E = P := ⟨_, rfl⟩
  rw [hP]
  have hkeep : Shf w base (Up G w w) q cs := h.mono (fun g hg => .inl hg)
  have hwd := sh_words w base q G cs h hk
  have hsw := sW_le cs hk cs.length
  have hmany := hk.small
  obtain ⟨A, cc, l, k1, k2, k3, k4, k5⟩ := h
  have hl : l.length = cs.length := by rw [← k5, kps_length]
  have c0 := k1.cell 0 (v := .slice A l.length cc) rfl
  rw [hl] at c0
  obtain ⟨n, hn⟩ : ∃ x, cs.length = x := ⟨_, rfl⟩
  rw [hn] at c0 hsw hmany
  have hres := hE
  unfold maE at hres
  rw [hn] at hres
  rw [hn] at hwd
  obtain ⟨S, hSE⟩ : ∃ x, sW cs n = x := ⟨_, rfl⟩
  rw [hSE] at hres hwd hsw
  have e1 : IntKind.i64.wrap ((S : Int) + 1) = (S : Int) + 1 := IntWalk.i64_in _ (by omega)
  have hplt := k1.lt
  have H := Lib.hid (And.intro hP (And.intro hkeep (And.intro hwd (And.intro hres (And.intro k1 (And.intro k2 (And.intro k3 (And.intro k4 (And.intro k5 (And.intro (hl.trans hn) (And.intro hn hI))))))))))); clear hP hkeep hwd hres k1 k2 k3 k4 k5 hE hl hk hn hSE hI
  by_cases h1 : m < 0
  · have d1 : decide (m < 0) = true := by simpa using h1
    have hEE : E = 1 := by rw [← H.out.2.2.2.1, if_pos (.inl h1)]
    subst hEE
    clear h1
    go_enter Try.func63, Try.ntmps63
    go_wp2_with fail
    rw [← H.out.1]
    exact ⟨rfl, H.out.2.1, Touch.refl _ _⟩
  have d1 : decide (m < 0) = false := by simpa using h1
  by_cases h2 : 2147483647 < m
  · have hEE : E = 1 := by rw [← H.out.2.2.2.1, if_pos (.inr h2)]
    subst hEE
    clear h1
    go_enter Try.func63, Try.ntmps63
    go_wp2_with fail
    rw [← H.out.1]
    exact ⟨rfl, H.out.2.1, Touch.refl _ _⟩
  have hres := H.out.2.2.2.1
  rw [if_neg (by omega)] at hres
  by_cases h3 : 100 ≤ n
  · have d3 : (100 : Int) ≤ (n : Int) := by omega
    have hEE : E = 2 := by rw [← hres, if_pos (.inl h3)]
    subst hEE
    clear h1 hres
    go_enter Try.func63, Try.ntmps63
    go_wp2_with fail
    rw [← H.out.1]
    exact ⟨rfl, H.out.2.1, Touch.refl _ _⟩
  have d3 : ¬ (100 : Int) ≤ (n : Int) := by omega
  by_cases h4 : 2000 < S + 1
  · have d4 : (2000 : Int) < (S : Int) + 1 := by omega
    have hEE : E = 2 := by rw [← hres, if_pos (.inr h4)]
    subst hEE
    clear h1 hres
    go_enter Try.func63, Try.ntmps63
    go_wp2_with fail
    refine H.out.2.2.1.mono ?_
    rintro e w1 ⟨rfl, hb1⟩
    clear c0
    go_wp2_with fail
    rw [← H.out.1]
    have hs1 := hb1.size
    exact ⟨rfl, by rw [if_neg (by decide)]; exact (H.out.2.1.fresh hb1).mono (fun g hg => .inl (hg.elim id (fun h => by omega))), Touch.ofBelow hb1⟩
  have d4 : ¬ (2000 : Int) < (S : Int) + 1 := by omega
  have hEE : E = 0 := by rw [← hres, if_neg (by omega)]
  subst hEE
  clear h1 hres
  have hbp : base ≤ q := H.out.2.2.2.2.2.2.2.1
  go_enter Try.func63, Try.ntmps63
  go_wp2_with fail
  refine H.out.2.2.1.mono ?_
  rintro e w1 ⟨rfl, hb1⟩
  have hs1 := hb1.size
  have k1 := H.out.2.2.2.2.1.fresh hb1
  have k2 := H.out.2.2.2.2.2.1.fresh hb1
  clear c0
  have c0 := k1.cell 0 (v := .slice A l.length cc) rfl
  rw [H.out.2.2.2.2.2.2.2.2.2.1] at c0
  have H1 := Lib.hid (And.intro k1 (And.intro k2 hb1)); clear k1 k2 hb1
  go_upto_region 6 with (at_builtin; go_must (refine wpList_app (α := KpR) (n := n) (m := 1) (B := w1.heap.size + 1) (r := [⟨m, none, 0, [], true⟩]) rfl (.tmp 28) (.tmp 31) _ rfl base 121 i0 _ 40 Try.underlying109 hi hz0 hz1 hz2 rfl (by decide) kpr_one (by rfl) H.out.2.2.2.2.2.2.2.2.2.1 (H1.out.2.1.row.alloc _) (by rfl) (At.built w1 _ _ [(⟨m, none, 0, [], true⟩ : KpR)] rfl (fun _ _ => trivial)) rfl (by omega) (by simp only [maxLen]; omega) (by simp; omega) ?_); intro A6 c6 w6 ho6 hgr6 hat6; have hs6 := hgr6.size; simp only [World.size_alloc] at hs6; have hp6 := (H1.out.1.alloc (.cells #[.int .i64 m, .slice none 0 0, .bool true] 121)).grown hgr6 (own_ne_ty (H1.out.2.1.row.alloc (.cells #[.int .i64 m, .slice none 0 0, .bool true] 121)) (H1.out.1.alloc (.cells #[.int .i64 m, .slice none 0 0, .bool true] 121)) (by decide)); have z6 := hp6.frozen 0; have p6 := hp6.cell 0 (v := .slice A l.length cc) rfl; have HF := Lib.hid (And.intro ho6 (And.intro hgr6 (And.intro hat6 hp6))); clear ho6 hgr6 hat6 hp6)
  have hx6 : (w6.setCell ⟨q, 0, none⟩ (.slice A6 (n + 1) c6)).heap.size = w6.heap.size := by simp [World.setCell]
  have hnew : Kps w6 base (Up G w w6) A6 c6 (l ++ [⟨m, none, 0, [], true⟩]) := (H1.out.2.1.alloc _).push HF.out.1 HF.out.2.1 (fun g hg => .inl hg) (fun g hg => by
    rcases HF.out.2.2.1 with e | e
    · exact .inl (H1.out.2.1.foot g (by rw [← e]; exact hg))
    · rw [hg] at e; injection e with e; simp only [World.size_alloc] at e; exact .inr ⟨by omega, (HF.out.1.lt g hg).2⟩) H.out.2.2.2.2.2.2.2.2.2.2.2
  have hln : (l ++ [(⟨m, none, 0, [], true⟩ : KpR)]).length = n + 1 := by rw [List.length_append, H.out.2.2.2.2.2.2.2.2.2.1, List.length_singleton]
  have hfin : Shf (w6.setCell ⟨q, 0, none⟩ (.slice A6 (n + 1) c6)) base (Up G w (w6.setCell ⟨q, 0, none⟩ (.slice A6 (n + 1) c6))) q (newK cs m) :=
    ⟨A6, c6, _, by rw [hln]; exact HF.out.2.2.2.set_ 0 _, (hnew.far_blk HF.out.2.2.2 (by decide) (by decide) 0 _).mono (fun g hg => Up.more (by rw [hx6]; exact Nat.le_refl _) hg), .inl H.out.2.2.2.2.2.2.1, hbp, by unfold newK kps; rw [List.map_append, show l.map KpR.kp = cs from H.out.2.2.2.2.2.2.2.2.1]; rfl⟩
  have hTf : Touch G w (w6.setCell ⟨q, 0, none⟩ (.slice A6 (n + 1) c6)) := (((Touch.ofBelow H1.out.2.2).alloc (.cells #[.int .i64 m, .slice none 0 0, .bool true] 121)).grown HF.out.2.1 (fun g hg => H1.out.2.1.foot g hg)).setCell (p := ⟨q, 0, none⟩) H.out.2.2.2.2.2.2.1 _
  have e3 : IntKind.i64.wrap ((n : Int) + 1 - 1) = (n : Int) := by rw [IntWalk.i64_in _ (by omega)]; omega
  have f0 := (HF.out.2.2.2.set_ 0 (.slice A6 (n + 1) c6)).cell 0 (v := .slice A6 (n + 1) c6) rfl
  have HZ := Lib.hid (And.intro hfin hTf); clear hfin hTf hnew HF H1 p6 z6
  obtain ⟨Z, hZ⟩ : ∃ Z, w6.setCell ⟨q, 0, none⟩ (.slice A6 (n + 1) c6) = Z := ⟨_, rfl⟩
  rw [hZ] at HZ f0 ⊢
  go_wp2_with fail
  rw [← H.out.1]
  exact ⟨by rw [if_pos rfl, H.out.2.2.2.2.2.2.2.2.2.2.1]; rfl, by rw [if_pos rfl]; exact HZ.out.1, HZ.out.2⟩

def StPost (w : World) (base q : Nat) (of_ at_ kk nn : Int) (G : Nat → Prop) (cs : List Kp) (E : Int) (e : Ending) (w' : World) : Prop :=
  e = .returned (.int .i64 E) ∧ Shf w' base G q (if E = 0 then setK cs of_.toNat at_.toNat (vV kk nn) else cs) ∧ Touch G w w'

set_option maxHeartbeats 1600000 in
set_option maxRecDepth 100000 in
theorem sh_set (w : World) (base q : Nat) (of_ at_ kk nn : Int) (G : Nat → Prop) (cs : List Kp) (h : Shf w base G q cs) (hk : Kok cs) (hkk : I64 kk) (hnn : I64 nn) :
    Calls Try.prog 67 #[.pointer (some ⟨q, 0, none⟩), .int .i64 of_, .int .i64 at_, .agg #[.int .i64 kk, .int .i64 nn]] w (StPost w base q of_ at_ kk nn G cs (seE cs of_ at_ kk nn)) := by
  obtain ⟨E, hE⟩ : ∃ E, seE cs of_ at_ kk nn = E := ⟨_, rfl⟩
  rw [hE]
  obtain ⟨P, hP⟩ : ∃ P, StPost w base q of_ at_ kk nn G cs E = P := ⟨_, rfl⟩
  rw [hP]
  obtain ⟨E1, hE1⟩ : ∃ x, sNm cs of_ = x := ⟨_, rfl⟩
  obtain ⟨E2, hE2⟩ : ∃ x, vE cs kk nn = x := ⟨_, rfl⟩
  have H := Lib.hid (And.intro h (And.intro hk (And.intro hE (And.intro hP (And.intro hE1 (And.intro hE2 (And.intro hkk hnn))))))); clear h hk hE hP hE1 hE2 hkk hnn
  go_enter Try.func67, Try.ntmps67
  go_upto_region 1 with fail
  refine wp_world (fun W => Blk W w.heap.size 23 #[.int .i64 kk, .int .i64 nn] ∧ Below w.heap.size w W ∧ W.heap.size = w.heap.size + 1) ⟨Blk.new _ _ _, (Below.refl _ _).alloc (Nat.le_refl _) _, by simp⟩ ?_
  rintro W ⟨hB, hbW, hsW⟩
  have hnm := sh_named W base q of_ G cs (H.out.1.fresh hbW) H.out.2.1
  rw [H.out.2.2.2.2.1] at hnm
  have HW := Lib.hid (And.intro hB (And.intro hbW hnm)); clear hB hbW hnm
  go_wp2_with fail
  refine HW.out.2.2.mono ?_
  rintro e w1 ⟨rfl, hb1⟩
  have hs1 := hb1.size
  have hb01 := HW.out.2.1.trans (hb1.mono (by omega))
  have hB1 := HW.out.1.fresh hb1
  by_cases h1 : E1 = 0
  · subst h1
    obtain ⟨k, c, rfl, hc, hn⟩ := sNm_get H.out.2.2.2.2.1
    have hbx := sh_valued w1 base q kk nn G cs (H.out.1.fresh hb01) H.out.2.1 H.out.2.2.2.2.2.2.1 H.out.2.2.2.2.2.2.2
    rw [H.out.2.2.2.2.2.1] at hbx
    obtain ⟨v, hv⟩ : ∃ x, vR cs kk nn = x := ⟨_, rfl⟩
    rw [hv] at hbx
    obtain ⟨v1, v2⟩ := v
    have b0 := hB1.cell 0 (v := .int .i64 kk) rfl
    have b1 := hB1.cell 1 (v := .int .i64 nn) rfl
    have H1 := Lib.hid (And.intro hb01 (And.intro hv (And.intro hbx (And.intro hc hn)))); clear hb1 hb01 hB1 hbx hc hn hv
    go_wp2_with fail
    refine H1.out.2.2.1.mono ?_
    rintro e w2 ⟨rfl, hb2⟩
    have hs2 := hb2.size
    have hb02 := H1.out.1.trans (hb2.mono (by omega))
    clear b0 b1
    simp only
    go_upto_region 5 with fail
    refine wp_world (fun Z => Blk Z w2.heap.size 23 #[.int .i64 v1, .int .i64 v2] ∧ Below w.heap.size w Z) ⟨Blk.new _ _ _, hb02.alloc (by omega) _⟩ ?_
    rintro Z ⟨hVZ, hbZ⟩
    have y0 := hVZ.cell 0 (v := .int .i64 v1) rfl
    have y1 := hVZ.cell 1 (v := .int .i64 v2) rfl
    by_cases h2 : E2 = 0
    · subst h2
      have hres := H.out.2.2.1
      unfold seE at hres
      rw [H.out.2.2.2.2.1, H.out.2.2.2.2.2.1, if_neg (by simp), if_neg (by simp), Int.toNat_natCast] at hres
      have hvv : vV kk nn = (v1, v2) := by rw [← H1.out.2.1]; unfold vR; rw [H.out.2.2.2.2.2.1, if_pos rfl]
      have hvI := (vV_box (k := kk) (n := nn) (by have := H.out.2.2.2.2.2.1; unfold vE at this; split at this; · rename_i h0; exact absurd this h0
                                                  · rename_i h0; simpa using h0)).2.2.2
      rw [hvv] at hvI
      obtain ⟨A, cc, l, k1, k2, k3, k4, k5⟩ := H.out.1.fresh hbZ
      have hc := H1.out.2.2.2.1
      rw [← k5] at hc
      obtain ⟨x, hx, hxc⟩ := get_kps hc
      have hcv : c.vals = x.vals := by rw [← hxc]; rfl
      obtain ⟨g, rfl, hg1, hg2, -, q1, -⟩ := k2.cells hx
      have c0 := k1.cell 0 (v := .slice (some ⟨g, 0, none⟩) l.length cc) rfl
      have kl : (k : Int) < (l.length : Int) := by have := (List.getElem?_eq_some_iff.1 hx).1; omega
      have hvl : vlenAt cs k = x.vals.length := by unfold vlenAt; rw [H1.out.2.2.2.1]; simp only; rw [hcv]
      rw [hvl] at hres
      obtain ⟨vl, hvlE⟩ : ∃ n, x.vals.length = n := ⟨_, rfl⟩
      rw [hvlE] at hres q1
      have H2 := Lib.hid (And.intro hbZ (And.intro hres (And.intro hvlE (And.intro hvv (And.intro hvI (And.intro k1 (And.intro k2 (And.intro k3 (And.intro k4 (And.intro k5 (And.intro hx (H.out.1.fresh hbZ))))))))))))
      clear hbZ hres hvlE hvv hvI k1 k2 k3 k4 k5 hc hx hxc hcv hvl hb2 hb02 hVZ
      by_cases h3 : at_ < 0
      · have d3 : decide (at_ < 0) = true := by simpa using h3
        have hEE : E = 1 := by rw [← H2.out.2.1, if_pos (.inl h3)]
        subst hEE
        clear h3
        go_wp2_with fail
        rw [← H.out.2.2.2.1]
        exact ⟨rfl, by rw [if_neg (by decide)]; exact H2.out.2.2.2.2.2.2.2.2.2.2.2, Touch.ofBelow H2.out.1⟩
      · obtain ⟨i, rfl⟩ : ∃ i : Nat, at_ = (i : Int) := ⟨at_.toNat, by omega⟩
        have d3 : decide ((i : Int) < 0) = false := by simp
        by_cases h4 : vl ≤ i
        · have d4 : (vl : Int) ≤ (i : Int) := by omega
          have hEE : E = 1 := by rw [← H2.out.2.1, if_pos (.inr (by omega))]
          subst hEE
          clear h3
          go_wp2_with fail
          rw [← H.out.2.2.2.1]
          exact ⟨rfl, by rw [if_neg (by decide)]; exact H2.out.2.2.2.2.2.2.2.2.2.2.2, Touch.ofBelow H2.out.1⟩
        · have d4 : ¬ (vl : Int) ≤ (i : Int) := by omega
          have d5 : (i : Int) < (vl : Int) := by omega
          have hEE : E = 0 := by rw [← H2.out.2.1, if_neg (by omega)]
          subst hEE
          clear h3
          obtain ⟨u, hu⟩ : ∃ u, x.vals[i]? = some u := ⟨_, List.getElem?_eq_getElem (by have := H2.out.2.2.1; omega)⟩
          have hsub := H2.out.2.2.2.2.2.2.1.sub k x H2.out.2.2.2.2.2.2.2.2.2.2.1
          obtain ⟨gv, hgv, hgv1, hgv2⟩ := hsub.1.some_ (by have := H2.out.2.2.1; omega)
          obtain ⟨b, o, hA, hb, -, -, p0, p1⟩ := (hsub.1.at_ hsub.2.2.1).pairS hu
          rw [hgv] at hA
          injection hA with hA
          injection hA with hA1 hA2
          subst hA1 hA2
          rw [hgv] at q1
          rw [Nat.zero_add] at p0 p1
          have z0 := hsub.1.frozen (g := gv) (by rw [hgv]; rfl) (i * 2)
          have z1 := hsub.1.frozen (g := gv) (by rw [hgv]; rfl) (i * 2 + 1)
          have hnewK := H2.out.2.2.2.2.2.2.1.setVal H2.out.2.2.2.2.2.2.2.2.2.2.1 hgv hu H2.out.2.2.2.2.1.1 H2.out.2.2.2.2.1.2
          have hqg : q ≠ gv := fun e => own_ne_ty hsub.1 H2.out.2.2.2.2.2.1 (by decide) (by rw [hgv, e]; rfl)
          have hblk := (H2.out.2.2.2.2.2.1.far (p := ⟨gv, i * 2, none⟩) hqg (.int .i64 v1)).far (p := ⟨gv, i * 2 + 1, none⟩) hqg (.int .i64 v2)
          have hfin : Shf ((Z.setCell ⟨gv, i * 2, none⟩ (.int .i64 v1)).setCell ⟨gv, i * 2 + 1, none⟩ (.int .i64 v2)) base G q (setK cs k i (v1, v2)) := by
            refine ⟨some ⟨g, 0, none⟩, cc, _, by rw [List.length_set]; exact hblk, hnewK, H2.out.2.2.2.2.2.2.2.1, H2.out.2.2.2.2.2.2.2.2.1, ?_⟩
            rw [kps_set, ← H2.out.2.2.2.2.2.2.2.2.2.1]
            unfold setK
            rw [modify_set _ (kps_get H2.out.2.2.2.2.2.2.2.2.2.2.1)]; rfl
          have hTf : Touch G w ((Z.setCell ⟨gv, i * 2, none⟩ (.int .i64 v1)).setCell ⟨gv, i * 2 + 1, none⟩ (.int .i64 v2)) := ((Touch.ofBelow H2.out.1).setCell (p := ⟨gv, i * 2, none⟩) (hsub.2.1 gv (by rw [hgv]; rfl)) _).setCell (p := ⟨gv, i * 2 + 1, none⟩) (hsub.2.1 gv (by rw [hgv]; rfl)) _
          have HN := Lib.hid (And.intro hfin hTf); clear hfin hTf hnewK hblk hsub hu hgv
          go_upto_region 9 with fail
          go_still_tail 11, (by kernel_rfl)
          change wpList _ _ _ _ _ (World.drew _)
          go_wp2_with fail
          rw [← H.out.2.2.2.1]
          exact ⟨rfl, by rw [if_pos rfl, Int.toNat_natCast, Int.toNat_natCast, H2.out.2.2.2.1]; exact HN.out.1.drewN 1, HN.out.2.drewN 1⟩
    · have d2 : (E2 != 0) = true := by simpa using h2
      have hres := H.out.2.2.1
      unfold seE at hres
      rw [H.out.2.2.2.2.1, H.out.2.2.2.2.2.1, if_neg (by simp), if_pos h2] at hres
      subst hres
      have H2 := Lib.hid (And.intro hbZ h2); clear hbZ h2 hb2 hb02 hVZ
      go_wp2_with fail
      rw [← H.out.2.2.2.1]
      exact ⟨rfl, by rw [if_neg H2.out.2]; exact H.out.1.fresh H2.out.1, Touch.ofBelow H2.out.1⟩
  · have d1 : (E1 != 0) = true := by simpa using h1
    have hres := H.out.2.2.1
    unfold seE at hres
    rw [H.out.2.2.2.2.1, if_pos h1] at hres
    subst hres
    have H2 := Lib.hid (And.intro hb01 h1); clear hb01 hB1 h1 hb1
    go_wp2_with fail
    rw [← H.out.2.2.2.1]
    exact ⟨rfl, by rw [if_neg H2.out.2]; exact H.out.1.fresh H2.out.1, Touch.ofBelow H2.out.1⟩
end Sto
end Go.Proofs.Ytpkccpegdpodoaa

/- The law's shelf: Push. -/
namespace Go.Proofs.Ytpkccpegdpodoaa
open Go.RowKit

attribute [local go_sem ↓] Go.wp_at_zero Go.wp_at_succ

theorem val_oneS : ∀ x : Int × Int, ∀ u ∈ Flat.cells x, u.oneCell' = true := by
  intro x u hu; simp [Flat.cells] at hu; rcases hu with rfl | rfl <;> rfl
/-- one value more -/
theorem Kps.pushVal {w w6 : World} {base : Nat} {F F' : Nat → Prop} {c g i c6 nm : Nat} {l : List KpR} {x : KpR} {A6 : Option Addr} {v : Int × Int} (h : Kps w base F (some ⟨g, 0, none⟩) c l) (hx : l[i]? = some x) (ho : Own w6 base 23 A6 c6 (x.vals ++ [v])) (hgr : w.grownBy w6 (rowOf x.A)) (hnm : (x.vals ++ [v]).length = nm)
    (hF : ∀ g, F g → F' g) (hG : ∀ g, rowOf A6 = some g → F' g ∧ (rowOf x.A = some g ∨ ¬ F g)) (hv : Flat.ok v) : Kps (w6.setCell ⟨g, i * 3 + 1, none⟩ (.slice A6 nm c6)) base F' (some ⟨g, 0, none⟩) c (l.set i { x with A := A6, c := c6, vals := x.vals ++ [v] }) := by
  subst hnm
  have hxs := h.sub i x hx
  have hrow6 : Own w6 base 121 (some ⟨g, 0, none⟩) c l := h.row.grown hgr (fun k hk e => h.row_ne hx k hk e)
  have hne : rowOf A6 ≠ some g := fun e => own_own_ty hrow6 ho (by decide) g rfl e
  refine h.upd hx (hrow6.set_ (j := 1) rfl hx (by decide) (by simp [Flat.cells])) (ho.setCell _ _ hne) (fun k hk h1 h2 => ?_) hF hG (fun u hu => ?_) hxs.2.2.2
  · rw [Below.heap_setCell _ _ _ _ (fun e => h1 (by simp only at e; rw [e]; rfl))]
    exact hgr.block k hk (fun e => h2 e.symm)
  · rcases List.mem_append.1 hu with e | e
    · exact hxs.2.2.1 u e
    · simp at e; subst e; exact hv

namespace Sto
def SpPost (w : World) (base q : Nat) (of_ kk nn : Int) (G : Nat → Prop) (cs : List Kp) (E : Int) (e : Ending) (w' : World) : Prop :=
  e = .returned (.int .i64 E) ∧ Shf w' base (Up G w w') q (if E = 0 then pshK cs of_.toNat (vV kk nn) else cs) ∧ Touch G w w'

set_option maxHeartbeats 1600000 in
set_option maxRecDepth 100000 in
theorem sh_push (w : World) (base q : Nat) (of_ kk nn : Int) (G : Nat → Prop) (cs : List Kp) (h : Shf w base G q cs) (hk : Kok cs) (hG : ∀ g, G g → g < w.heap.size) (hkk : I64 kk) (hnn : I64 nn) :
    Calls Try.prog 65 #[.pointer (some ⟨q, 0, none⟩), .int .i64 of_, .agg #[.int .i64 kk, .int .i64 nn]] w (SpPost w base q of_ kk nn G cs (puE cs of_ kk nn)) := by
  obtain ⟨i0, hi, hz0, hz1, hz2⟩ := info_partsH infoVal
  obtain ⟨E, hE⟩ : ∃ E, puE cs of_ kk nn = E := ⟨_, rfl⟩
  rw [hE]
  obtain ⟨P, hP⟩ : ∃ P, SpPost w base q of_ kk nn G cs E = P := ⟨_, rfl⟩
  rw [hP]
  obtain ⟨E1, hE1⟩ : ∃ x, sNm cs of_ = x := ⟨_, rfl⟩
  obtain ⟨E2, hE2⟩ : ∃ x, vE cs kk nn = x := ⟨_, rfl⟩
  have H := Lib.hid (And.intro h (And.intro hk (And.intro hE (And.intro hP (And.intro hE1 (And.intro hE2 (And.intro hkk (And.intro hnn hG)))))))); clear h hk hE hP hE1 hE2 hkk hnn hG
  go_enter Try.func65, Try.ntmps65
  go_upto_region 1 with fail
  refine wp_world (fun W => Blk W w.heap.size 23 #[.int .i64 kk, .int .i64 nn] ∧ Below w.heap.size w W ∧ W.heap.size = w.heap.size + 1) ⟨Blk.new _ _ _, (Below.refl _ _).alloc (Nat.le_refl _) _, by simp⟩ ?_
  rintro W ⟨hB, hbW, hsW⟩
  have hnm := sh_named W base q of_ G cs (H.out.1.fresh hbW) H.out.2.1
  rw [H.out.2.2.2.2.1] at hnm
  have HW := Lib.hid (And.intro hB (And.intro hbW hnm)); clear hB hbW hnm
  go_wp2_with fail
  refine HW.out.2.2.mono ?_
  rintro e w1 ⟨rfl, hb1⟩
  have hs1 := hb1.size
  have hb01 := HW.out.2.1.trans (hb1.mono (by omega))
  have hB1 := HW.out.1.fresh hb1
  by_cases h1 : E1 = 0
  · subst h1
    obtain ⟨k, c, rfl, hc, hn⟩ := sNm_get H.out.2.2.2.2.1
    have hbx := sh_valued w1 base q kk nn G cs (H.out.1.fresh hb01) H.out.2.1 H.out.2.2.2.2.2.2.1 H.out.2.2.2.2.2.2.2.1
    rw [H.out.2.2.2.2.2.1] at hbx
    obtain ⟨v, hv⟩ : ∃ x, vR cs kk nn = x := ⟨_, rfl⟩
    rw [hv] at hbx
    obtain ⟨v1, v2⟩ := v
    have b0 := hB1.cell 0 (v := .int .i64 kk) rfl
    have b1 := hB1.cell 1 (v := .int .i64 nn) rfl
    have H1 := Lib.hid (And.intro hb01 (And.intro hv (And.intro hbx (And.intro hc hn)))); clear hb1 hb01 hB1 hbx hc hn hv
    go_wp2_with fail
    refine H1.out.2.2.1.mono ?_
    rintro e w2 ⟨rfl, hb2⟩
    have hs2 := hb2.size
    have hb02 := H1.out.1.trans (hb2.mono (by omega))
    clear b0 b1
    simp only
    go_upto_region 5 with fail
    refine wp_world (fun Z => Blk Z w2.heap.size 23 #[.int .i64 v1, .int .i64 v2] ∧ Below w.heap.size w Z) ⟨Blk.new _ _ _, hb02.alloc (by omega) _⟩ ?_
    rintro Z ⟨hVZ, hbZ⟩
    have hsZ := hbZ.size
    by_cases h2 : E2 = 0
    · subst h2
      have hres := H.out.2.2.1
      unfold puE at hres
      rw [H.out.2.2.2.2.1, H.out.2.2.2.2.2.1, if_neg (by simp), if_neg (by simp), Int.toNat_natCast] at hres
      have hvv : vV kk nn = (v1, v2) := by rw [← H1.out.2.1]; unfold vR; rw [H.out.2.2.2.2.2.1, if_pos rfl]
      have hvI := (vV_box (k := kk) (n := nn) (by have := H.out.2.2.2.2.2.1; unfold vE at this; split at this; · rename_i h0; exact absurd this h0
                                                  · rename_i h0; simpa using h0)).2.2.2
      rw [hvv] at hvI
      obtain ⟨A, cc, l, k1, k2, k3, k4, k5⟩ := H.out.1.fresh hbZ
      have hc := H1.out.2.2.2.1
      rw [← k5] at hc
      obtain ⟨x, hx, hxc⟩ := get_kps hc
      have hcv : c.vals = x.vals := by rw [← hxc]; rfl
      obtain ⟨g, rfl, hg1, hg2, -, q1, -⟩ := k2.cells hx
      have c0 := k1.cell 0 (v := .slice (some ⟨g, 0, none⟩) l.length cc) rfl
      have kl : (k : Int) < (l.length : Int) := by have := (List.getElem?_eq_some_iff.1 hx).1; omega
      have hvl : vlenAt cs k = x.vals.length := by unfold vlenAt; rw [H1.out.2.2.2.1]; simp only; rw [hcv]
      rw [hvl] at hres
      obtain ⟨vl, hvlE⟩ : ∃ n, x.vals.length = n := ⟨_, rfl⟩
      rw [hvlE] at hres q1
      have hwd := sh_words Z base q G cs (H.out.1.fresh hbZ) H.out.2.1
      have hsw := sW_le cs H.out.2.1 cs.length
      have hmany := H.out.2.1.small
      obtain ⟨S, hSE⟩ : ∃ x, sW cs cs.length = x := ⟨_, rfl⟩
      rw [hSE] at hres hwd hsw
      have e1 : IntKind.i64.wrap ((S : Int) + 1) = (S : Int) + 1 := IntWalk.i64_in _ (by omega)
      have hvle : vl ≤ 100 := by
        have hh := H.out.2.1.vlen c (List.mem_of_getElem? H1.out.2.2.2.1)
        rw [hcv, hvlE] at hh; exact hh
      have H2 := Lib.hid (And.intro hbZ (And.intro hres (And.intro hvlE (And.intro hvv (And.intro hvI (And.intro k1 (And.intro k2 (And.intro k3 (And.intro k4 (And.intro k5 (And.intro hx (And.intro (H.out.1.fresh hbZ) (And.intro hwd hVZ)))))))))))))
      clear hbZ hres hvlE hvv hvI k1 k2 k3 k4 k5 hc hx hxc hcv hvl hb2 hb02 hwd hsw hmany hSE hVZ
      by_cases h3 : 100 ≤ vl
      · have d3 : (100 : Int) ≤ (vl : Int) := by omega
        have hEE : E = 2 := by rw [← H2.out.2.1, if_pos (.inl h3)]
        subst hEE
        go_wp2_with fail
        rw [← H.out.2.2.2.1]
        exact ⟨rfl, by rw [if_neg (by decide)]; exact H2.out.2.2.2.2.2.2.2.2.2.2.2.1.mono (fun g hg => .inl hg), Touch.ofBelow H2.out.1⟩
      · have d3 : ¬ (100 : Int) ≤ (vl : Int) := by omega
        by_cases h4 : 2000 < S + 1
        · have d4 : (2000 : Int) < (S : Int) + 1 := by omega
          have hEE : E = 2 := by rw [← H2.out.2.1, if_pos (.inr h4)]
          subst hEE
          go_wp2_with fail
          refine H2.out.2.2.2.2.2.2.2.2.2.2.2.2.1.mono ?_
          rintro e w3 ⟨rfl, hb3⟩
          clear c0 q1
          have hb03 := H2.out.1.trans (hb3.mono hsZ)
          go_wp2_with fail
          rw [← H.out.2.2.2.1]
          exact ⟨rfl, by rw [if_neg (by decide)]; exact (H.out.1.fresh hb03).mono (fun g hg => .inl hg), Touch.ofBelow hb03⟩
        · have d4 : ¬ (2000 : Int) < (S : Int) + 1 := by omega
          have hEE : E = 0 := by rw [← H2.out.2.1, if_neg (by omega)]
          subst hEE
          go_wp2_with fail
          refine H2.out.2.2.2.2.2.2.2.2.2.2.2.2.1.mono ?_
          rintro e w3 ⟨rfl, hb3⟩
          have hs3 := hb3.size
          clear c0 q1
          have hb03 := H2.out.1.trans (hb3.mono hsZ)
          have k1 := H2.out.2.2.2.2.2.1.fresh hb3
          have k2 := H2.out.2.2.2.2.2.2.1.fresh hb3
          have hV3 := H2.out.2.2.2.2.2.2.2.2.2.2.2.2.2.fresh hb3
          have hx := H2.out.2.2.2.2.2.2.2.2.2.2.1
          obtain ⟨g', hg', hg1', hg2', -, q1, -⟩ := k2.cells hx
          injection hg' with hg'
          injection hg' with hg'
          subst hg'
          rw [H2.out.2.2.1] at q1
          have hsub := k2.sub k x hx
          have c0 := k1.cell 0 (v := .slice (some ⟨g, 0, none⟩) l.length cc) rfl
          have y0 := hV3.cell 0 (v := .int .i64 v1) rfl
          have y1 := hV3.cell 1 (v := .int .i64 v2) rfl
          have z1 := k2.row.frozen (g := g) rfl (k * 3 + 1)
          have hql := k1.lt
          have hvlt := hV3.lt
          have hgq : g ≠ q := fun e => own_ne_ty k2.row k1 (by decide) (by rw [← e]; rfl)
          have hbq : base ≤ q := H2.out.2.2.2.2.2.2.2.2.1
          have hgw : ∀ gg, G gg → gg < w.heap.size := H.out.2.2.2.2.2.2.2.2
          have hgv : g ≠ w2.heap.size := fun e => by have := hgw g (k2.foot g rfl); omega
          have H3 := Lib.hid (And.intro hb03 (And.intro k1 (And.intro k2 (And.intro hV3 (And.intro hx (And.intro hsub hgw)))))); clear hb03 k1 k2 hV3 hx hsub hb3 hgw
          go_upto_region 9 with fail
          go_cut [] from 41 to 58 (fun W2 => Hid (Shf W2 base (Up G w W2) q (pshK cs k (v1, v2))) ∧ Touch G w W2)
          case first =>
            have BX : Below w3.heap.size w3 w3.drew := (Below.refl _ _).drew
            refine wp_region_held_drew (S := (fun w' => w'.cell? ⟨q, 0, none⟩ = some (.slice (some ⟨g, 0, none⟩) l.length cc) ∧ w'.cell? ⟨w2.heap.size, 0, none⟩ = some (.int .i64 v1) ∧ w'.cell? ⟨w2.heap.size, 1, none⟩ = some (.int .i64 v2))) (by kernel_rfl) ?_ (fun hHeld0 => ?_)
            · first | trivial | ((try dsimp only); (exact ⟨c0, y0, y1⟩))
            refine held_take (v := ?_) 0 rfl (by kernel_rfl) (by kernel_rfl) (by kernel_rfl) (fun _ _ _ h => h) (by rfl) ?_ (by assumption) ?_
            rotate_left
            · (intro w hSw; (try dsimp only at hSw); go_simp; try with_reducible rfl)
            try simp only [Act.put, List.setIfInBounds_toArray, List.set_cons_zero, List.set_cons_succ]
            refine held_take (v := ?_) 1 rfl (by kernel_rfl) (by kernel_rfl) (by kernel_rfl) (fun _ _ _ h => h) (by rfl) ?_ (by assumption) ?_
            rotate_left
            · (intro w hSw; (try dsimp only at hSw); go_simp; try with_reducible rfl)
            try simp only [Act.put, List.setIfInBounds_toArray, List.set_cons_zero, List.set_cons_succ]
            refine held_take (v := ?_) 2 rfl (by kernel_rfl) (by kernel_rfl) (by kernel_rfl) (fun _ _ _ h => h) (by rfl) ?_ (by assumption) ?_
            rotate_left
            · (intro w hSw; (try dsimp only at hSw); go_simp; try with_reducible rfl)
            try simp only [Act.put, List.setIfInBounds_toArray, List.set_cons_zero, List.set_cons_succ]
            refine held_take (v := ?_) 3 rfl (by kernel_rfl) (by kernel_rfl) (by kernel_rfl) (fun _ _ _ h => h) (by rfl) ?_ (by assumption) ?_
            rotate_left
            · (intro w hSw; (try dsimp only at hSw); go_simp; try with_reducible rfl)
            try simp only [Act.put, List.setIfInBounds_toArray, List.set_cons_zero, List.set_cons_succ]
            refine held_take (v := ?_) 4 rfl (by kernel_rfl) (by kernel_rfl) (by kernel_rfl) (fun _ _ _ h => h) (by rfl) ?_ (by assumption) ?_
            rotate_left
            · (intro w hSw; (try dsimp only at hSw); go_simp; try with_reducible rfl)
            try simp only [Act.put, List.setIfInBounds_toArray, List.set_cons_zero, List.set_cons_succ]
            refine held_take (v := ?_) 5 rfl (by kernel_rfl) (by kernel_rfl) (by kernel_rfl) (fun _ _ _ h => h) (by rfl) ?_ (by assumption) ?_
            rotate_left
            · (intro w hSw; (try dsimp only at hSw); go_simp; try with_reducible rfl)
            try simp only [Act.put, List.setIfInBounds_toArray, List.set_cons_zero, List.set_cons_succ]
            refine held_take (v := ?_) 6 rfl (by kernel_rfl) (by kernel_rfl) (by kernel_rfl) (fun _ _ _ h => h) (by rfl) ?_ (by assumption) ?_
            rotate_left
            · (intro w hSw; (try dsimp only at hSw); go_simp; try with_reducible rfl)
            try simp only [Act.put, List.setIfInBounds_toArray, List.set_cons_zero, List.set_cons_succ]
            refine held_take (v := ?_) 7 rfl (by kernel_rfl) (by kernel_rfl) (by kernel_rfl) (fun _ _ _ h => h) (by rfl) ?_ (by assumption) ?_
            rotate_left
            · (intro w hSw; (try dsimp only at hSw); go_simp; try with_reducible rfl)
            try simp only [Act.put, List.setIfInBounds_toArray, List.set_cons_zero, List.set_cons_succ]
            refine held_take (v := ?_) 8 rfl (by kernel_rfl) (by kernel_rfl) (by kernel_rfl) (fun _ _ _ h => h) (by rfl) ?_ (by assumption) ?_
            rotate_left
            · (intro w hSw; (try dsimp only at hSw); go_simp; try with_reducible rfl)
            try simp only [Act.put, List.setIfInBounds_toArray, List.set_cons_zero, List.set_cons_succ]
            refine held_take (v := ?_) 9 rfl (by kernel_rfl) (by kernel_rfl) (by kernel_rfl) (fun _ _ _ h => h) (by rfl) ?_ (by assumption) ?_
            rotate_left
            · (intro w hSw; (try dsimp only at hSw); go_simp; try with_reducible rfl)
            try simp only [Act.put, List.setIfInBounds_toArray, List.set_cons_zero, List.set_cons_succ]
            refine held_take (v := ?_) 10 rfl (by kernel_rfl) (by kernel_rfl) (by kernel_rfl) (fun _ _ _ h => h) (by rfl) ?_ (by assumption) ?_
            rotate_left
            · (intro w hSw; (try dsimp only at hSw); go_simp; try with_reducible rfl)
            try simp only [Act.put, List.setIfInBounds_toArray, List.set_cons_zero, List.set_cons_succ]
            refine held_take (v := ?_) 11 rfl (by kernel_rfl) (by kernel_rfl) (by kernel_rfl) (fun _ _ _ h => h) (by rfl) ?_ (by assumption) ?_
            rotate_left
            · (intro w hSw; (try dsimp only at hSw); go_simp; try with_reducible rfl)
            try simp only [Act.put, List.setIfInBounds_toArray, List.set_cons_zero, List.set_cons_succ]
            refine held_take (v := ?_) 13 rfl (by kernel_rfl) (by kernel_rfl) (by kernel_rfl) (fun _ _ _ h => h) (by rfl) ?_ (by assumption) ?_
            rotate_left
            · (intro w hSw; (try dsimp only at hSw); go_simp; try with_reducible rfl)
            try simp only [Act.put, List.setIfInBounds_toArray, List.set_cons_zero, List.set_cons_succ]
            refine held_call2 12 14 (by kernel_rfl) rfl rfl (fun K hK => ?_) (fun K hK => ?_)
            · go_simp
              refine hK.out _ _ ?_ (fun hHeld1 => ?_)
              · first | trivial | ((try dsimp only); (exact ⟨c0, y0, y1⟩))
              clear hK K hHeld0
              try simp only [Act.put, List.setIfInBounds_toArray, List.set_cons_zero, List.set_cons_succ]
              refine held_call 14 (by kernel_rfl) rfl (fun K hK => ?_)
              go_simp
              refine hK.out _ _ ?_ (fun hHeld2 => ?_)
              · first | trivial | ((try dsimp only); (exact ⟨((BX.alloc BX.size _).cell (p := ⟨q, 0, none⟩) hql).trans c0, ((BX.alloc BX.size _).cell (p := ⟨w2.heap.size, 0, none⟩) hvlt).trans y0, ((BX.alloc BX.size _).cell (p := ⟨w2.heap.size, 1, none⟩) hvlt).trans y1⟩))
              clear hK K hHeld1
              try simp only [Act.put, List.setIfInBounds_toArray, List.set_cons_zero, List.set_cons_succ]
              refine held_call 15 (by kernel_rfl) rfl (fun K hK => ?_)
              refine step_app (α := Int × Int) (n := vl) (m := 1) (nm := vl + 1) (r := [(v1, v2)]) (by rfl) (.tmp 53) (.tmp 55) _ (by rfl) base 23 i0 _ 16 Try.underlying35 hi hz0 hz1 hz2 rfl (by decide) val_oneS (by rfl) H2.out.2.2.1 (H3.out.2.2.2.2.2.1.1.drew.alloc _) (B := w3.heap.size + 1) (X := some ⟨w3.heap.size, 0, none⟩) (d := 1) (by rfl) (At.built w3.drew _ _ [(v1, v2)] rfl (by intro u hu; simp at hu; subst hu; exact H2.out.2.2.2.2.1)) rfl rfl (by omega) (by simp only [maxLen]; omega) (by simp; omega) ?_; intro A6 c6 w6 ho6 hgr6 hat6; have hs6 := hgr6.size; simp only [World.size_alloc, World.size_drew] at hs6; have nxg : rowOf x.A ≠ some g := fun e => H3.out.2.2.1.row_ne H3.out.2.2.2.2.1 g rfl e; have nxq : rowOf x.A ≠ some q := own_ne_ty H3.out.2.2.2.2.2.1.1 H3.out.2.1 (by decide); have nxv : rowOf x.A ≠ some w2.heap.size := (fun e => (by have := H3.out.2.2.2.2.2.2 _ (H3.out.2.2.2.2.2.1.2.1 _ e); omega)); have hq6 := (H3.out.2.1.drew.alloc (.cells #[.int .i64 v1, .int .i64 v2] 23)).grown hgr6 nxq; have hV6 := (H3.out.2.2.2.1.drew.alloc (.cells #[.int .i64 v1, .int .i64 v2] 23)).grown hgr6 nxv; have hg6 : w6.heap[g]? = w3.heap[g]? := (hgr6.block g (by simp; omega) (fun e => nxg e.symm)).trans (Below.heap_alloc w3.drew _ g (by simp; omega)); have q16 : w6.cell? ⟨g, k * 3 + 1, none⟩ = some (.slice x.A vl x.c) := (by unfold World.cell? at q1 ⊢; rw [hg6]; exact q1); have z16 : w6.frozen? ⟨g, k * 3 + 1, none⟩ = false := (by unfold World.frozen? at z1 ⊢; rw [hg6]; exact z1); have d0 := hq6.cell 0 (v := .slice (some ⟨g, 0, none⟩) l.length cc) rfl; have f0 := hV6.cell 0 (v := .int .i64 v1) rfl; have f1 := hV6.cell 1 (v := .int .i64 v2) rfl
              refine hK.out _ _ ?_ (fun hHeld3 => ?_)
              · first | trivial | ((try dsimp only); (exact ⟨d0, f0, f1⟩))
              clear hK K hHeld2
              try simp only [Act.put, List.setIfInBounds_toArray, List.set_cons_zero, List.set_cons_succ]
              refine held_take (v := ?_) 16 rfl (by kernel_rfl) (by kernel_rfl) (by kernel_rfl) (fun _ _ _ h => h) (by rfl) ?_ (by assumption) ?_
              rotate_left
              · (intro w hSw; (try dsimp only at hSw); go_simp; try with_reducible rfl)
              try simp only [Act.put, List.setIfInBounds_toArray, List.set_cons_zero, List.set_cons_succ]
              refine held_take (v := ?_) 17 rfl (by kernel_rfl) (by kernel_rfl) (by kernel_rfl) (fun _ _ _ h => h) (by rfl) ?_ (by assumption) ?_
              rotate_left
              · (intro w hSw; (try dsimp only at hSw); go_simp; try with_reducible rfl)
              try simp only [Act.put, List.setIfInBounds_toArray, List.set_cons_zero, List.set_cons_succ]
              refine held_call 18 (by kernel_rfl) rfl (fun K hK => ?_)
              go_simp
              refine hK.out _ _ ?_ (fun hHeld4 => ?_)
              · first | trivial | ((try dsimp only); (exact ⟨(hq6.far (p := ⟨g, k * 3 + 1, none⟩) (fun e => hgq e.symm) _).cell 0 rfl, (hV6.far (p := ⟨g, k * 3 + 1, none⟩) (fun e => hgv e.symm) _).cell 0 rfl, (hV6.far (p := ⟨g, k * 3 + 1, none⟩) (fun e => hgv e.symm) _).cell 1 rfl⟩))
              clear hK K hHeld3
              try simp only [Act.put, List.setIfInBounds_toArray, List.set_cons_zero, List.set_cons_succ]
              refine wpAnyH_done (by kernel_rfl) ?_ _
              go_wp2_with fail
              go_meet
              have hx6 : (w6.setCell ⟨g, k * 3 + 1, none⟩ (.slice A6 (vl + 1) c6)).heap.size = w6.heap.size := by simp [World.setCell]
              have hsw3 := H3.out.1.size
              have hnewK := ((H3.out.2.2.1.keep (w' := w3.drew) (fun _ _ _ => rfl)).alloc (.cells #[.int .i64 v1, .int .i64 v2] 23)).pushVal (F' := Up G w (w6.setCell ⟨g, k * 3 + 1, none⟩ (.slice A6 (vl + 1) c6))) (nm := vl + 1) H3.out.2.2.2.2.1 ho6 hgr6 (by rw [List.length_append, H2.out.2.2.1, List.length_singleton]) (fun gg hg => .inl hg) (fun gg hg => by rcases hat6 with e | e; exact ⟨.inl (H3.out.2.2.2.2.2.1.2.1 gg (by rw [← e]; exact hg)), .inl (by rw [← e]; exact hg)⟩; have e2 := e; rw [hg] at e2; injection e2 with e2; simp only [World.size_alloc, World.size_drew] at e2; exact ⟨.inr ⟨by omega, by rw [hx6]; exact (ho6.lt gg hg).2⟩, .inr (fun h => by have := H3.out.2.2.2.2.2.2 gg h; omega)⟩) H2.out.2.2.2.2.1
              have hTf := ((((Touch.ofBelow (F := G) H3.out.1).drew).alloc (.cells #[.int .i64 v1, .int .i64 v2] 23)).grown hgr6 (fun gg hg => H3.out.2.2.2.2.2.1.2.1 gg hg)).setCell (p := ⟨g, k * 3 + 1, none⟩) (H3.out.2.2.1.foot g rfl) (.slice A6 (vl + 1) c6)
              refine ⟨?_, hTf⟩
              unfold Hid
              refine ⟨some ⟨g, 0, none⟩, cc, _, by rw [List.length_set]; exact hq6.far (p := ⟨g, k * 3 + 1, none⟩) (fun e => hgq e.symm) _, hnewK, .inl H2.out.2.2.2.2.2.2.2.1, hbq, ?_⟩
              rw [kps_set, ← H2.out.2.2.2.2.2.2.2.2.2.1]
              unfold pshK
              rw [modify_set _ (kps_get H3.out.2.2.2.2.1)]; rfl
            · go_simp
              refine hK.out _ _ ?_ (fun hHeld1 => ?_)
              · first | trivial | ((try dsimp only); (exact ⟨((BX.alloc BX.size _).cell (p := ⟨q, 0, none⟩) hql).trans c0, ((BX.alloc BX.size _).cell (p := ⟨w2.heap.size, 0, none⟩) hvlt).trans y0, ((BX.alloc BX.size _).cell (p := ⟨w2.heap.size, 1, none⟩) hvlt).trans y1⟩))
              clear hK K hHeld0
              try simp only [Act.put, List.setIfInBounds_toArray, List.set_cons_zero, List.set_cons_succ]
              refine held_call 12 (by kernel_rfl) rfl (fun K hK => ?_)
              go_simp
              refine hK.out _ _ ?_ (fun hHeld2 => ?_)
              · first | trivial | ((try dsimp only); (exact ⟨((BX.alloc BX.size _).cell (p := ⟨q, 0, none⟩) hql).trans c0, ((BX.alloc BX.size _).cell (p := ⟨w2.heap.size, 0, none⟩) hvlt).trans y0, ((BX.alloc BX.size _).cell (p := ⟨w2.heap.size, 1, none⟩) hvlt).trans y1⟩))
              clear hK K hHeld1
              try simp only [Act.put, List.setIfInBounds_toArray, List.set_cons_zero, List.set_cons_succ]
              refine held_call 15 (by kernel_rfl) rfl (fun K hK => ?_)
              refine step_app (α := Int × Int) (n := vl) (m := 1) (nm := vl + 1) (r := [(v1, v2)]) (by rfl) (.tmp 53) (.tmp 55) _ (by rfl) base 23 i0 _ 16 Try.underlying35 hi hz0 hz1 hz2 rfl (by decide) val_oneS (by rfl) H2.out.2.2.1 (H3.out.2.2.2.2.2.1.1.drew.alloc _) (B := w3.heap.size + 1) (X := some ⟨w3.heap.size, 0, none⟩) (d := 1) (by rfl) (At.built w3.drew _ _ [(v1, v2)] rfl (by intro u hu; simp at hu; subst hu; exact H2.out.2.2.2.2.1)) rfl rfl (by omega) (by simp only [maxLen]; omega) (by simp; omega) ?_; intro A6 c6 w6 ho6 hgr6 hat6; have hs6 := hgr6.size; simp only [World.size_alloc, World.size_drew] at hs6; have nxg : rowOf x.A ≠ some g := fun e => H3.out.2.2.1.row_ne H3.out.2.2.2.2.1 g rfl e; have nxq : rowOf x.A ≠ some q := own_ne_ty H3.out.2.2.2.2.2.1.1 H3.out.2.1 (by decide); have nxv : rowOf x.A ≠ some w2.heap.size := (fun e => (by have := H3.out.2.2.2.2.2.2 _ (H3.out.2.2.2.2.2.1.2.1 _ e); omega)); have hq6 := (H3.out.2.1.drew.alloc (.cells #[.int .i64 v1, .int .i64 v2] 23)).grown hgr6 nxq; have hV6 := (H3.out.2.2.2.1.drew.alloc (.cells #[.int .i64 v1, .int .i64 v2] 23)).grown hgr6 nxv; have hg6 : w6.heap[g]? = w3.heap[g]? := (hgr6.block g (by simp; omega) (fun e => nxg e.symm)).trans (Below.heap_alloc w3.drew _ g (by simp; omega)); have q16 : w6.cell? ⟨g, k * 3 + 1, none⟩ = some (.slice x.A vl x.c) := (by unfold World.cell? at q1 ⊢; rw [hg6]; exact q1); have z16 : w6.frozen? ⟨g, k * 3 + 1, none⟩ = false := (by unfold World.frozen? at z1 ⊢; rw [hg6]; exact z1); have d0 := hq6.cell 0 (v := .slice (some ⟨g, 0, none⟩) l.length cc) rfl; have f0 := hV6.cell 0 (v := .int .i64 v1) rfl; have f1 := hV6.cell 1 (v := .int .i64 v2) rfl
              refine hK.out _ _ ?_ (fun hHeld3 => ?_)
              · first | trivial | ((try dsimp only); (exact ⟨d0, f0, f1⟩))
              clear hK K hHeld2
              try simp only [Act.put, List.setIfInBounds_toArray, List.set_cons_zero, List.set_cons_succ]
              refine held_take (v := ?_) 16 rfl (by kernel_rfl) (by kernel_rfl) (by kernel_rfl) (fun _ _ _ h => h) (by rfl) ?_ (by assumption) ?_
              rotate_left
              · (intro w hSw; (try dsimp only at hSw); go_simp; try with_reducible rfl)
              try simp only [Act.put, List.setIfInBounds_toArray, List.set_cons_zero, List.set_cons_succ]
              refine held_take (v := ?_) 17 rfl (by kernel_rfl) (by kernel_rfl) (by kernel_rfl) (fun _ _ _ h => h) (by rfl) ?_ (by assumption) ?_
              rotate_left
              · (intro w hSw; (try dsimp only at hSw); go_simp; try with_reducible rfl)
              try simp only [Act.put, List.setIfInBounds_toArray, List.set_cons_zero, List.set_cons_succ]
              refine held_call 18 (by kernel_rfl) rfl (fun K hK => ?_)
              go_simp
              refine hK.out _ _ ?_ (fun hHeld4 => ?_)
              · first | trivial | ((try dsimp only); (exact ⟨(hq6.far (p := ⟨g, k * 3 + 1, none⟩) (fun e => hgq e.symm) _).cell 0 rfl, (hV6.far (p := ⟨g, k * 3 + 1, none⟩) (fun e => hgv e.symm) _).cell 0 rfl, (hV6.far (p := ⟨g, k * 3 + 1, none⟩) (fun e => hgv e.symm) _).cell 1 rfl⟩))
              clear hK K hHeld3
              try simp only [Act.put, List.setIfInBounds_toArray, List.set_cons_zero, List.set_cons_succ]
              refine wpAnyH_done (by kernel_rfl) ?_ _
              go_wp2_with fail
              go_meet
              have hx6 : (w6.setCell ⟨g, k * 3 + 1, none⟩ (.slice A6 (vl + 1) c6)).heap.size = w6.heap.size := by simp [World.setCell]
              have hsw3 := H3.out.1.size
              have hnewK := ((H3.out.2.2.1.keep (w' := w3.drew) (fun _ _ _ => rfl)).alloc (.cells #[.int .i64 v1, .int .i64 v2] 23)).pushVal (F' := Up G w (w6.setCell ⟨g, k * 3 + 1, none⟩ (.slice A6 (vl + 1) c6))) (nm := vl + 1) H3.out.2.2.2.2.1 ho6 hgr6 (by rw [List.length_append, H2.out.2.2.1, List.length_singleton]) (fun gg hg => .inl hg) (fun gg hg => by rcases hat6 with e | e; exact ⟨.inl (H3.out.2.2.2.2.2.1.2.1 gg (by rw [← e]; exact hg)), .inl (by rw [← e]; exact hg)⟩; have e2 := e; rw [hg] at e2; injection e2 with e2; simp only [World.size_alloc, World.size_drew] at e2; exact ⟨.inr ⟨by omega, by rw [hx6]; exact (ho6.lt gg hg).2⟩, .inr (fun h => by have := H3.out.2.2.2.2.2.2 gg h; omega)⟩) H2.out.2.2.2.2.1
              have hTf := ((((Touch.ofBelow (F := G) H3.out.1).drew).alloc (.cells #[.int .i64 v1, .int .i64 v2] 23)).grown hgr6 (fun gg hg => H3.out.2.2.2.2.2.1.2.1 gg hg)).setCell (p := ⟨g, k * 3 + 1, none⟩) (H3.out.2.2.1.foot g rfl) (.slice A6 (vl + 1) c6)
              refine ⟨?_, hTf⟩
              unfold Hid
              refine ⟨some ⟨g, 0, none⟩, cc, _, by rw [List.length_set]; exact hq6.far (p := ⟨g, k * 3 + 1, none⟩) (fun e => hgq e.symm) _, hnewK, .inl H2.out.2.2.2.2.2.2.2.1, hbq, ?_⟩
              rw [kps_set, ← H2.out.2.2.2.2.2.2.2.2.2.1]
              unfold pshK
              rw [modify_set _ (kps_get H3.out.2.2.2.2.1)]; rfl
          case rest =>
            obtain ⟨hS, hT⟩ := hcut
            go_wp2_with fail
            rw [← H.out.2.2.2.1]
            exact ⟨rfl, by rw [if_pos rfl, Int.toNat_natCast, H2.out.2.2.2.1]; exact hS.out, hT⟩
    · have d2 : (E2 != 0) = true := by simpa using h2
      have hres := H.out.2.2.1
      unfold puE at hres
      rw [H.out.2.2.2.2.1, H.out.2.2.2.2.2.1, if_neg (by simp), if_pos h2] at hres
      subst hres
      have H2 := Lib.hid (And.intro hbZ h2); clear hbZ h2 hb2 hb02 hVZ
      go_wp2_with fail
      rw [← H.out.2.2.2.1]
      exact ⟨rfl, by rw [if_neg H2.out.2]; exact (H.out.1.fresh H2.out.1).mono (fun g hg => .inl hg), Touch.ofBelow H2.out.1⟩
  · have d1 : (E1 != 0) = true := by simpa using h1
    have hres := H.out.2.2.1
    unfold puE at hres
    rw [H.out.2.2.2.2.1, if_pos h1] at hres
    subst hres
    have H2 := Lib.hid (And.intro hb01 h1); clear hb01 hB1 h1 hb1
    go_wp2_with fail
    rw [← H.out.2.2.2.1]
    exact ⟨rfl, by rw [if_neg H2.out.2]; exact (H.out.1.fresh H2.out.1).mono (fun g hg => .inl hg), Touch.ofBelow H2.out.1⟩
end Sto
end Go.Proofs.Ytpkccpegdpodoaa

/- The law of a store: the closed fact. -/
namespace Go.Proofs.Ytpkccpegdpodoaa
open Go.RowKit

attribute [local go_sem ↓] Go.wp_at_zero Go.wp_at_succ

namespace Sto
theorem upLt {F : Nat → Prop} {w w' : World} (hF : ∀ g, F g → g < w.heap.size) (hs : w.heap.size ≤ w'.heap.size) : ∀ g, Up F w w' g → g < w'.heap.size := fun g hg => hg.elim (fun h => by have := hF g h; omega) (fun h => h.2)
theorem upGe {F : Nat → Prop} {w w' : World} {base : Nat} (hF : ∀ g, F g → base ≤ g) (hs : base ≤ w.heap.size) : ∀ g, Up F w w' g → base ≤ g := fun g hg => hg.elim (fun h => hF g h) (fun h => by have := h.1; omega)
theorem sW_nil : sW [] 0 = 0 := by simp [sW]
theorem maE_nil : maE [] 7 = 0 := by
  unfold maE
  rw [if_neg (by omega), if_neg]
  rw [List.length_nil, sW_nil]; omega
def k0 : List Kp := [⟨7, [], true⟩]
theorem nd_k0 : Nd k0 0 := Nd.root (c := ⟨7, [], true⟩) rfl rfl
theorem ndB_k0 : ndB k0 0 = true := ndB_iff.2 ⟨by unfold k0; simp, nd_k0⟩
theorem sNm_k0 : sNm k0 0 = 0 := by
  unfold sNm
  rw [if_neg (by unfold k0; simp), if_pos (by simpa using ndB_k0)]
theorem sW_k0 : sW k0 1 = 1 := by
  rw [sW_succ, ndB_k0, if_pos rfl]
  have : sW k0 0 = 0 := by simp [sW]
  rw [this]; rfl
theorem puE_k0 : puE k0 0 5 0 = 0 := by
  have hv : vE k0 5 0 = 0 := by
    unfold vE
    have hb := box_ref (p := 0) (by omega)
    have hb2 : (boxL 5 0).2 = 0 := by simpa using congrArg Prod.snd hb
    rw [if_neg (by rw [hb2]; simp), if_pos rfl, sNm_k0]
  unfold puE
  rw [if_neg (by rw [sNm_k0]; simp), if_neg (by rw [hv]; simp), if_neg]
  show ¬ (100 ≤ vlenAt k0 (Int.toNat 0) ∨ 2000 < sW k0 1 + 1)
  rw [sW_k0]
  have : vlenAt k0 (Int.toNat 0) = 0 := rfl
  rw [this]; omega

set_option maxHeartbeats 1600000 in
set_option maxRecDepth 100000 in
theorem stored_any (w : World) : Calls Try.prog 59 #[] w fun e w' => e = .returned (.bool true) ∧ Below w.heap.size w w' := by
  go_enter Try.func59, Try.ntmps59
  go_wp2_with fail
  refine (snew_any w).mono ?_
  rintro e w1 ⟨rfl, hso, hb1, hs1⟩
  have h0 : StU w1 w.heap.size (fun g => g = w.heap.size) w.heap.size [] 0 := ⟨[], [], hso, Sr.nil, rfl⟩
  have hF1 : ∀ g, g = w.heap.size → g < w1.heap.size := fun g hg => by omega
  have hmk := st_make w1 w.heap.size w.heap.size 0 7 (fun g => g = w.heap.size) [] h0 hF1
  rw [maE_nil] at hmk
  have H1 := Lib.hid (And.intro hmk hb1); clear hmk hb1 hso h0
  go_wp2_with fail
  refine H1.out.1.mono ?_
  rintro e w2 ⟨rfl, ⟨u', hu, hule⟩, hT2⟩
  rw [if_pos rfl] at hu
  have hs2 := hT2.size
  have hu : StU w2 w.heap.size (Up (fun g => g = w.heap.size) w1 w2) w.heap.size k0 u' := hu
  have hle := hu.le
  rw [show k0.length = 1 from rfl, sW_k0] at hle
  obtain rfl : u' = 1 := by omega
  have hmark := st_mark w2 w.heap.size w.heap.size 0 _ k0 hu.st
  rw [sNm_k0] at hmark
  have hF2 : ∀ g, Up (fun g => g = w.heap.size) w1 w2 g → g < w2.heap.size := upLt hF1 hs2
  have hG2 : ∀ g, Up (fun g => g = w.heap.size) w1 w2 g → w.heap.size ≤ g := upGe (fun g hg => by omega) (by omega)
  have hb2 : Below w.heap.size w w2 := H1.out.2.trans (hT2.below (fun g hg => Nat.le_of_eq hg.symm) (by omega))
  have H2 := Lib.hid (And.intro hu (And.intro hmark (And.intro hF2 (And.intro hG2 hb2)))); clear hu hmark hF2 hG2 hb2 hT2 hle
  rw [if_pos rfl]
  go_wp2_with fail
  refine H2.out.2.1.mono ?_
  rintro e w3 ⟨rfl, hb3⟩
  have hs3 := hb3.size
  have hu3 := H2.out.1.fresh hb3
  have hused := st_used w3 w.heap.size w.heap.size 1 _ k0 hu3
  have hpush := st_push w3 w.heap.size w.heap.size 0 5 0 _ k0 hu3.st (fun g hg => by have := H2.out.2.2.1 g hg; omega) (by unfold I64; omega) (by unfold I64; omega)
  rw [puE_k0] at hpush
  have hb03 := H2.out.2.2.2.2.trans (hb3.mono (by omega))
  have H3 := Lib.hid (And.intro hused (And.intro hpush hb03)); clear hused hpush hu3 hb3 hb03
  rw [if_pos rfl, show markAt k0 (Int.toNat 0) = 7 from rfl]
  go_wp2_with fail
  refine H3.out.1.mono ?_
  rintro e w4 ⟨rfl, rfl⟩
  go_wp2_with fail
  refine H3.out.2.1.mono ?_
  rintro e w5 ⟨rfl, -, hT5⟩
  have hb5 := H3.out.2.2.trans (hT5.below H2.out.2.2.2.1 (by omega))
  have HB := Lib.hid hb5; clear hb5 hT5
  go_wp2_with fail
  go_returns
  exact ⟨rfl, HB.out⟩
end Sto
end Go.Proofs.Ytpkccpegdpodoaa

/- The law of a store: what stands while a deed is done. -/
namespace Go.Proofs.Ytpkccpegdpodoaa
open Go.RowKit

namespace Sto
/-- the store and the shelf, apart; a deed and a value beside them -/
structure Rd (w0 W : World) (base p q D V : Nat) (dd a b n v1 v2 : Int) (F G : Nat → Prop) (u : Nat) (cs1 cs2 : List Kp) : Prop where
  st : StU W base F p cs1 u
  sh : Shf W base G q cs2
  dis : ∀ g, F g → ¬ G g
  fl : ∀ g, F g → base ≤ g ∧ g < W.heap.size
  gl : ∀ g, G g → base ≤ g ∧ g < W.heap.size
  d : Blk W D 97 #[.int .i64 dd, .int .i64 a, .int .i64 b, .int .i64 n]
  v : Blk W V 23 #[.int .i64 v1, .int .i64 v2]
  nd : ¬ F D ∧ ¬ G D
  nv : ¬ F V ∧ ¬ G V
  bel : Below base w0 W
  le : base ≤ W.heap.size
section
variable {w0 W W' : World} {base p q D V : Nat} {dd a b n v1 v2 : Int} {F G : Nat → Prop} {u : Nat} {cs1 cs2 : List Kp}
theorem Rd.drewN (h : Rd w0 W base p q D V dd a b n v1 v2 F G u cs1 cs2) (k : Nat) : Rd w0 (W.drewN k) base p q D V dd a b n v1 v2 F G u cs1 cs2 :=
  ⟨by obtain ⟨obs, pl, h1, h2⟩ := h.st; exact ⟨obs, pl, h1.drewN k, h2⟩, h.sh.drewN k, h.dis, h.fl, h.gl, h.d.drewN k, h.v.drewN k, h.nd, h.nv, below_drewN h.bel k, h.le⟩
theorem Rd.drew (h : Rd w0 W base p q D V dd a b n v1 v2 F G u cs1 cs2) : Rd w0 W.drew base p q D V dd a b n v1 v2 F G u cs1 cs2 := h.drewN 1
theorem Rd.fresh (h : Rd w0 W base p q D V dd a b n v1 v2 F G u cs1 cs2) (hb : Below W.heap.size W W') : Rd w0 W' base p q D V dd a b n v1 v2 F G u cs1 cs2 :=
  ⟨h.st.fresh hb, h.sh.fresh hb, h.dis, fun g hg => ⟨(h.fl g hg).1, by have := (h.fl g hg).2; have := hb.size; omega⟩, fun g hg => ⟨(h.gl g hg).1, by have := (h.gl g hg).2; have := hb.size; omega⟩, h.d.fresh hb, h.v.fresh hb, h.nd, h.nv, h.bel.trans (hb.mono h.le), by have := hb.size; have := h.le; omega⟩
/-- the store has done something -/
theorem Rd.store {cs1' : List Kp} {u' : Nat} (h : Rd w0 W base p q D V dd a b n v1 v2 F G u cs1 cs2) (hs : StU W' base (Up F W W') p cs1' u') (ht : Touch F W W') : Rd w0 W' base p q D V dd a b n v1 v2 (Up F W W') G u' cs1' cs2 := by
  have hsz := ht.size
  refine ⟨hs, h.sh.touch ht (fun g hg hf => h.dis g hf hg), fun g hf hg => ?_, fun g hg => ?_, fun g hg => ⟨(h.gl g hg).1, by have := (h.gl g hg).2; omega⟩, blk_touchS h.d ht h.nd.1, blk_touchS h.v ht h.nv.1, ⟨fun hf => ?_, h.nd.2⟩, ⟨fun hf => ?_, h.nv.2⟩, h.bel.trans (ht.below (fun g hg => (h.fl g hg).1) h.le), by have := h.le; omega⟩
  · rcases hf with hf | hf
    · exact h.dis g hf hg
    · have := (h.gl g hg).2; omega
  · rcases hg with hg | hg
    · have := h.fl g hg; omega
    · have := h.le; omega
  · rcases hf with hf | hf
    · exact h.nd.1 hf
    · have := h.d.lt; omega
  · rcases hf with hf | hf
    · exact h.nv.1 hf
    · have := h.v.lt; omega
/-- the shelf has done something -/
theorem Rd.shelf {cs2' : List Kp} (h : Rd w0 W base p q D V dd a b n v1 v2 F G u cs1 cs2) (hs : Shf W' base (Up G W W') q cs2') (ht : Touch G W W') : Rd w0 W' base p q D V dd a b n v1 v2 F (Up G W W') u cs1 cs2' := by
  have hsz := ht.size
  refine ⟨h.st.touch ht (fun g hf hg => h.dis g hf hg), hs, fun g hf hg => ?_, fun g hg => ⟨(h.fl g hg).1, by have := (h.fl g hg).2; omega⟩, fun g hg => ?_, blk_touchS h.d ht h.nd.2, blk_touchS h.v ht h.nv.2, ⟨h.nd.1, fun hf => ?_⟩, ⟨h.nv.1, fun hf => ?_⟩, h.bel.trans (ht.below (fun g hg => (h.gl g hg).1) h.le), by have := h.le; omega⟩
  · rcases hg with hg | hg
    · exact h.dis g hf hg
    · have := (h.fl g hf).2; omega
  · rcases hg with hg | hg
    · have := h.gl g hg; omega
    · have := h.le; omega
  · rcases hf with hf | hf
    · exact h.nd.2 hf
    · have := h.d.lt; omega
  · rcases hf with hf | hf
    · exact h.nv.2 hf
    · have := h.v.lt; omega
theorem Rd.cells (h : Rd w0 W base p q D V dd a b n v1 v2 F G u cs1 cs2) : W.cell? ⟨D, 1, none⟩ = some (.int .i64 a) ∧ W.cell? ⟨D, 3, none⟩ = some (.int .i64 n) ∧ W.cell? ⟨V, 0, none⟩ = some (.int .i64 v1) ∧ W.cell? ⟨V, 1, none⟩ = some (.int .i64 v2) :=
  ⟨h.d.cell 1 rfl, h.d.cell 3 rfl, h.v.cell 0 rfl, h.v.cell 1 rfl⟩
end
/-- both stand alike, apart from each other -/
def TwoS (w : World) (base p q : Nat) : Prop :=
  ∃ (F G : Nat → Prop) (u : Nat) (cs : List Kp), StU w base F p cs u ∧ Shf w base G q cs ∧ (∀ g, F g → ¬ G g) ∧ (∀ g, F g → base ≤ g ∧ g < w.heap.size) ∧ (∀ g, G g → base ≤ g ∧ g < w.heap.size)
theorem TwoS.fresh {w w' : World} {base p q : Nat} (h : TwoS w base p q) (hb : Below w.heap.size w w') : TwoS w' base p q := by
  obtain ⟨F, G, u, cs, h1, h2, h3, h4, h5⟩ := h
  have := hb.size
  exact ⟨F, G, u, cs, h1.fresh hb, h2.fresh hb, h3, fun g hg => ⟨(h4 g hg).1, by have := (h4 g hg).2; omega⟩, fun g hg => ⟨(h5 g hg).1, by have := (h5 g hg).2; omega⟩⟩
theorem Rd.two {w0 W : World} {base p q D V : Nat} {dd a b n v1 v2 : Int} {F G : Nat → Prop} {u : Nat} {cs : List Kp} (h : Rd w0 W base p q D V dd a b n v1 v2 F G u cs cs) : TwoS W base p q := ⟨F, G, u, cs, h.st, h.sh, h.dis, h.fl, h.gl⟩

/-! ### the deeds, both sides' posts as one form -/
section
variable {w0 W : World} {base p q D V : Nat} {dd a b n v1 v2 : Int} {F G : Nat → Prop} {u : Nat} {cs1 cs2 : List Kp}
theorem Rd.flt (h : Rd w0 W base p q D V dd a b n v1 v2 F G u cs1 cs2) : ∀ g, F g → g < W.heap.size := fun g hg => (h.fl g hg).2
theorem Rd.glt (h : Rd w0 W base p q D V dd a b n v1 v2 F G u cs1 cs2) : ∀ g, G g → g < W.heap.size := fun g hg => (h.gl g hg).2
theorem Rd.stMake (h : Rd w0 W base p q D V dd a b n v1 v2 F G u cs1 cs2) : Calls Try.prog 62 #[.pointer (some ⟨p, 0, none⟩), .int .i64 n] W fun e W' => e = .returned (.tuple #[.int .i64 (if maE cs1 n = 0 then (cs1.length : Int) else 0), .int .i64 (maE cs1 n)]) ∧ ∃ u', Rd w0 W' base p q D V dd a b n v1 v2 (Up F W W') G u' (if maE cs1 n = 0 then newK cs1 n else cs1) cs2 := by
  refine (st_make W base p u n F cs1 h.st h.flt).mono ?_
  rintro e W' ⟨h1, ⟨u', h2, -⟩, h3⟩
  exact ⟨h1, u', h.store h2 h3⟩
theorem Rd.shMake (h : Rd w0 W base p q D V dd a b n v1 v2 F G u cs1 cs2) (hk : Kok cs2) (hn : I64 n) : Calls Try.prog 63 #[.pointer (some ⟨q, 0, none⟩), .int .i64 n] W fun e W' => e = .returned (.tuple #[.int .i64 (if maE cs2 n = 0 then (cs2.length : Int) else 0), .int .i64 (maE cs2 n)]) ∧ Rd w0 W' base p q D V dd a b n v1 v2 F (Up G W W') u cs1 (if maE cs2 n = 0 then newK cs2 n else cs2) := by
  refine (sh_make W base q n G cs2 h.sh hk hn).mono ?_
  rintro e W' ⟨h1, h2, h3⟩
  exact ⟨h1, h.shelf h2 h3⟩
theorem Rd.stPush (h : Rd w0 W base p q D V dd a b n v1 v2 F G u cs1 cs2) (h1 : I64 v1) (h2 : I64 v2) : Calls Try.prog 64 #[.pointer (some ⟨p, 0, none⟩), .int .i64 a, .agg #[.int .i64 v1, .int .i64 v2]] W fun e W' => e = .returned (.int .i64 (puE cs1 a v1 v2)) ∧ ∃ u', Rd w0 W' base p q D V dd a b n v1 v2 (Up F W W') G u' (if puE cs1 a v1 v2 = 0 then pshK cs1 a.toNat (vV v1 v2) else cs1) cs2 := by
  refine (st_push W base p a v1 v2 F cs1 h.st.st h.flt h1 h2).mono ?_
  rintro e W' ⟨h1, h2, h3⟩
  obtain ⟨u', h2⟩ := h2.stu
  exact ⟨h1, u', h.store h2 h3⟩
theorem Rd.shPush (h : Rd w0 W base p q D V dd a b n v1 v2 F G u cs1 cs2) (hk : Kok cs2) (h1 : I64 v1) (h2 : I64 v2) : Calls Try.prog 65 #[.pointer (some ⟨q, 0, none⟩), .int .i64 a, .agg #[.int .i64 v1, .int .i64 v2]] W fun e W' => e = .returned (.int .i64 (puE cs2 a v1 v2)) ∧ Rd w0 W' base p q D V dd a b n v1 v2 F (Up G W W') u cs1 (if puE cs2 a v1 v2 = 0 then pshK cs2 a.toNat (vV v1 v2) else cs2) := by
  refine (sh_push W base q a v1 v2 G cs2 h.sh hk h.glt h1 h2).mono ?_
  rintro e W' ⟨h1, h2, h3⟩
  exact ⟨h1, h.shelf h2 h3⟩
theorem Rd.stSet (h : Rd w0 W base p q D V dd a b n v1 v2 F G u cs1 cs2) (h1 : I64 v1) (h2 : I64 v2) : Calls Try.prog 66 #[.pointer (some ⟨p, 0, none⟩), .int .i64 a, .int .i64 n, .agg #[.int .i64 v1, .int .i64 v2]] W fun e W' => e = .returned (.int .i64 (seE cs1 a n v1 v2)) ∧ ∃ u', Rd w0 W' base p q D V dd a b n v1 v2 (Up F W W') G u' (if seE cs1 a n v1 v2 = 0 then setK cs1 a.toNat n.toNat (vV v1 v2) else cs1) cs2 := by
  refine (st_set W base p a n v1 v2 F cs1 h.st.st h1 h2).mono ?_
  rintro e W' ⟨h1, h2, h3⟩
  obtain ⟨u', h2⟩ := (h2.mono (G := Up F W W') (fun g hg => .inl hg)).stu
  exact ⟨h1, u', h.store h2 h3⟩
theorem Rd.shSet (h : Rd w0 W base p q D V dd a b n v1 v2 F G u cs1 cs2) (hk : Kok cs2) (h1 : I64 v1) (h2 : I64 v2) : Calls Try.prog 67 #[.pointer (some ⟨q, 0, none⟩), .int .i64 a, .int .i64 n, .agg #[.int .i64 v1, .int .i64 v2]] W fun e W' => e = .returned (.int .i64 (seE cs2 a n v1 v2)) ∧ Rd w0 W' base p q D V dd a b n v1 v2 F (Up G W W') u cs1 (if seE cs2 a n v1 v2 = 0 then setK cs2 a.toNat n.toNat (vV v1 v2) else cs2) := by
  refine (sh_set W base q a n v1 v2 G cs2 h.sh hk h1 h2).mono ?_
  rintro e W' ⟨h1, h2, h3⟩
  exact ⟨h1, h.shelf (h2.mono (fun g hg => .inl hg)) h3⟩
theorem Rd.stHold (h : Rd w0 W base p q D V dd a b n v1 v2 F G u cs1 cs2) : Calls Try.prog 70 #[.pointer (some ⟨p, 0, none⟩), .int .i64 a] W fun e W' => e = .returned (.int .i64 (hoE cs1 a true)) ∧ ∃ u', Rd w0 W' base p q D V dd a b n v1 v2 (Up F W W') G u' (if hoE cs1 a true = 0 then hldK cs1 a.toNat true else cs1) cs2 := by
  refine (st_hold W base p a F cs1 h.st.st).mono ?_
  rintro e W' ⟨h1, h2, h3⟩
  obtain ⟨u', h2⟩ := (h2.mono (G := Up F W W') (fun g hg => .inl hg)).stu
  exact ⟨h1, u', h.store h2 h3⟩
theorem Rd.stDrop (h : Rd w0 W base p q D V dd a b n v1 v2 F G u cs1 cs2) : Calls Try.prog 72 #[.pointer (some ⟨p, 0, none⟩), .int .i64 a] W fun e W' => e = .returned (.int .i64 (hoE cs1 a false)) ∧ ∃ u', Rd w0 W' base p q D V dd a b n v1 v2 (Up F W W') G u' (if hoE cs1 a false = 0 then hldK cs1 a.toNat false else cs1) cs2 := by
  refine (st_drop W base p a F cs1 h.st.st).mono ?_
  rintro e W' ⟨h1, h2, h3⟩
  obtain ⟨u', h2⟩ := (h2.mono (G := Up F W W') (fun g hg => .inl hg)).stu
  exact ⟨h1, u', h.store h2 h3⟩
theorem Rd.shHold (h : Rd w0 W base p q D V dd a b n v1 v2 F G u cs1 cs2) (hk : Kok cs2) (is : Bool) : Calls Try.prog 71 #[.pointer (some ⟨q, 0, none⟩), .int .i64 a, .bool is] W fun e W' => e = .returned (.int .i64 (hoE cs2 a is)) ∧ Rd w0 W' base p q D V dd a b n v1 v2 F (Up G W W') u cs1 (if hoE cs2 a is = 0 then hldK cs2 a.toNat is else cs2) := by
  refine (sh_hold W base q a is G cs2 h.sh hk).mono ?_
  rintro e W' ⟨h1, h2, h3⟩
  exact ⟨h1, h.shelf (h2.mono (fun g hg => .inl hg)) h3⟩
theorem Rd.stGet (h : Rd w0 W base p q D V dd a b n v1 v2 F G u cs1 cs2) : Calls Try.prog 68 #[.pointer (some ⟨p, 0, none⟩), .int .i64 a, .int .i64 n] W fun e W' => e = .returned (.tuple #[.agg #[.int .i64 (geV cs1 a n).1, .int .i64 (geV cs1 a n).2], .int .i64 (geE cs1 a n)]) ∧ Below W.heap.size W W' := st_get W base p a n F cs1 h.st.st
theorem Rd.shGet (h : Rd w0 W base p q D V dd a b n v1 v2 F G u cs1 cs2) (hk : Kok cs2) : Calls Try.prog 69 #[.pointer (some ⟨q, 0, none⟩), .int .i64 a, .int .i64 n] W fun e W' => e = .returned (.tuple #[.agg #[.int .i64 (geV cs2 a n).1, .int .i64 (geV cs2 a n).2], .int .i64 (geE cs2 a n)]) ∧ Below W.heap.size W W' := sh_get W base q a n G cs2 h.sh hk
theorem Rd.stCollect (h : Rd w0 W base p q D V dd a b n v1 v2 F G u cs1 cs2) : Calls Try.prog 74 #[.pointer (some ⟨p, 0, none⟩)] W fun e W' => e = .returned (.int .i64 ((u : Int) - (sW cs1 cs1.length : Int))) ∧ Rd w0 W' base p q D V dd a b n v1 v2 (Up F W W') G (sW cs1 cs1.length) cs1 cs2 := by
  refine (st_collect W base p u F cs1 h.st h.flt).mono ?_
  rintro e W' ⟨h1, h2, h3⟩
  exact ⟨h1, h.store h2 h3⟩
end
end Sto
end Go.Proofs.Ytpkccpegdpodoaa

/- The law of a store: all deeds. -/
namespace Go.Proofs.Ytpkccpegdpodoaa
open Go.RowKit

attribute [local go_sem ↓] Go.wp_at_zero Go.wp_at_succ

namespace Sto
theorem At.take_S {α : Type} [Enc α] {w : World} {B : Nat} {A : Option Addr} {l : List α} (h : At w B A l) (k : Nat) : At w B A (l.take k) := fun i x hx => h i x (by
  rw [List.getElem?_take] at hx
  split at hx
  · exact hx
  · cases hx)

set_option maxHeartbeats 12800000 in
set_option maxRecDepth 100000 in
theorem storeTells_any (A VA : Option Addr) (c vc B : Nat) (l : List De) (vals : List (Int × Int)) (w : World) (h : At w B A l) (hv : At w B VA vals) (hB : B ≤ w.heap.size) (hl : l.length ≤ 9223372036854775807) (hc : l.length ≤ c) (hvl : vals.length ≤ 9223372036854775807) :
    Calls Try.prog 10 #[.slice A l.length c, .slice VA vals.length vc] w fun e w' => e = .returned (.bool true) ∧ Below w.heap.size w w' := by
  obtain ⟨n, hn⟩ : ∃ n, n = min l.length 80 := ⟨_, rfl⟩
  have hmin : min (l.length : Int) 80 = (n : Int) := by omega
  have htl : (l.take 80).length = n := by rw [List.length_take]; omega
  have hn1 : n ≤ l.length := by omega
  have hn2 : n ≤ c := by omega
  have hn3 : n ≤ 80 := by omega
  obtain ⟨vn, hvn, hvl⟩ : ∃ x, vals.length = x ∧ x ≤ 9223372036854775807 := ⟨_, rfl, hvl⟩
  rw [hvn]
  have H := Lib.hid (And.intro (At.take_S h 80) (And.intro htl (And.intro hv hvn))); clear h htl hn hv hvn
  generalize l.take 80 = l' at H
  go_enter Try.func10, Try.ntmps10
  go_wp2_with fail
  refine (stored_any w).mono ?_
  rintro e w1 ⟨rfl, hb1⟩
  have hs1 := hb1.size
  go_wp2_with fail
  refine (snew_any w1).mono ?_
  rintro e w2 ⟨rfl, hso2, hb2, hsz2⟩
  have hst2 : StU w2 w.heap.size (fun g => g = w1.heap.size) w1.heap.size [] 0 := by
    obtain ⟨WA, AA, HA, cw, ac, hcc, hS⟩ := hso2
    exact ⟨[], [], ⟨WA, AA, HA, cw, ac, hcc, hS.blk, hS.words.base_le hs1, hS.places.base_le hs1, hS.helds.base_le hs1, ⟨rfl, hs1⟩, hS.footW, hS.footA, hS.footH, hS.okW, hS.okA⟩, Sr.nil, rfl⟩
  have HM := Lib.hid (And.intro hst2 (hb1.trans (hb2.mono hs1))); clear hst2 hso2 hb2 hb1
  go_upto_region 7 with fail
  refine wp_world (fun W => TwoS W w.heap.size w1.heap.size (w1.heap.size + 1) ∧ Below w.heap.size w W) ⟨?_, HM.out.2.alloc (by omega) _⟩ ?_
  · exact ⟨fun g => g = w1.heap.size, fun g => g = w1.heap.size + 1, 0, [], HM.out.1.fresh ((Below.refl _ _).alloc (Nat.le_refl _) _), ⟨none, 0, [], Blk.at_ _ _ _ hsz2.symm, Kps.nil_ _ _ _, rfl, by omega, rfl⟩, fun g h1 h2 => by omega, fun g hg => by subst hg; exact ⟨hs1, by simp; omega⟩, fun g hg => by subst hg; exact ⟨by omega, by simp; omega⟩⟩
  rintro W ⟨hW, hbW⟩
  have HW := Lib.hid (And.intro hW hbW); clear hW hbW HM
  go_wp2_with fail
  go_loopg [38] n (fun gk iv wr => ∃ k : Nat, k ≤ n ∧ gk = n - k ∧ iv = .int .i64 k ∧ Hid (TwoS wr w.heap.size w1.heap.size (w1.heap.size + 1)) ∧ Below w.heap.size w wr)
  case atStart => exact ⟨0, Nat.zero_le _, rfl, rfl, HW.out.1, HW.out.2⟩
  case round =>
    obtain ⟨k, hk, rfl, rfl, hkeep, hbl⟩ := hrel
    have hsz := hbl.size
    obtain ⟨wo, rfl⟩ : ∃ wo : World, wo = wr := ⟨_, rfl⟩
    by_cases hlt : k < n
    · obtain ⟨b, o, x, rfl, hb, hx, q0, q1, q2, q3, i0, i1, i2, i3⟩ := (H.out.1.below (hbl.mono hB)).de_ (k := k) (by have := H.out.2.1; omega)
      have b0 : (0 : Int) ≤ (k : Int) := by omega
      have b1 : (k : Int) < (n : Int) := by omega
      obtain ⟨dd, a, b', nn⟩ := x
      simp only at q0 q1 q2 q3 i0 i1 i2 i3
      have HX := Lib.hid (And.intro i0 (And.intro i1 (And.intro i3 hkeep.out))); clear i0 i1 i2 i3 hkeep hx
      go_upto_region 11 with fail
      refine wp_world (fun V => Blk V wo.heap.size 97 #[.int .i64 dd, .int .i64 a, .int .i64 b', .int .i64 nn] ∧ Blk V (wo.heap.size + 1) 23 #[.int .i64 0, .int .i64 0] ∧ Below wo.heap.size wo V ∧ V.heap.size = wo.heap.size + 2) ⟨(Blk.new _ _ _).alloc _, Blk.at_ _ _ _ (by simp), ((Below.refl _ _).alloc (Nat.le_refl _) _).alloc (by simp) _, by simp⟩ ?_
      rintro V ⟨hD, hVb, hbV, hsV⟩
      clear q0 q1 q2 q3
      have HV := Lib.hid (And.intro hD (And.intro hVb hbV)); clear hD hVb hbV
      go_upto_if 46 with fail
      go_cut [] from 46 to 50 (fun W2 => ∃ v1 v2 : Int, Hid (Blk W2 wo.heap.size 97 #[.int .i64 dd, .int .i64 a, .int .i64 b', .int .i64 nn] ∧ Blk W2 (wo.heap.size + 1) 23 #[.int .i64 v1, .int .i64 v2] ∧ Below wo.heap.size wo W2 ∧ I64 v1 ∧ I64 v2))
      case first =>
        by_cases hkv : k < vn
        · obtain ⟨z, hz⟩ : ∃ z, vals[k]? = some z := ⟨_, List.getElem?_eq_getElem (by have := H.out.2.2.2; omega)⟩
          obtain ⟨bv, ov, rfl, hbB, hz1, hz2, p0, p1⟩ := ((H.out.2.2.1.below (hbl.mono hB)).below (HV.out.2.2.mono (by omega))).pairS hz
          obtain ⟨z1, z2⟩ := z
          simp only at hz1 hz2 p0 p1
          have k1 : (k : Int) < (vn : Int) := by omega
          have y0 := HV.out.2.1.cell 0 (v := .int .i64 0) rfl
          have y1 := HV.out.2.1.cell 1 (v := .int .i64 0) rfl
          have zz0 := HV.out.2.1.frozen 0
          have zz1 := HV.out.2.1.frozen 1
          have HZ := Lib.hid (And.intro hz1 hz2); clear hz hz1 hz2
          go_wp2_with fail
          go_meet
          exact ⟨z1, z2, by unfold Hid; exact ⟨(HV.out.1.far (by simp) _).far (by simp) _, (HV.out.2.1.set_ 0 (.int .i64 z1)).set_ 1 (.int .i64 z2), (HV.out.2.2.setCell (by simp) _).setCell (by simp) _, HZ.out.1, HZ.out.2⟩⟩
        · have k1 : ¬ (k : Int) < (vn : Int) := by omega
          go_wp2_with fail
          go_meet
          exact ⟨0, 0, by unfold Hid; exact ⟨HV.out.1, HV.out.2.1, HV.out.2.2, by unfold I64; omega, by unfold I64; omega⟩⟩
      case rest =>
        obtain ⟨v1, v2, hcv⟩ := hcut
        obtain ⟨wq, rfl⟩ : ∃ x : World, x = wc := ⟨_, rfl⟩
        have hsq := hcv.out.2.2.1.size
        have hbq := hcv.out.2.2.1
        obtain ⟨F, G, u, cs, t1, t2, t3, t4, t5⟩ := HX.out.2.2.2
        have hD2 := hcv.out.1
        have hV2 := hcv.out.2.1
        have hRd : Rd w wq w.heap.size w1.heap.size (w1.heap.size + 1) wo.heap.size (wo.heap.size + 1) dd a b' nn v1 v2 F G u cs cs :=
          ⟨t1.fresh hbq, t2.fresh hbq, t3, fun g hg => ⟨(t4 g hg).1, by have := (t4 g hg).2; omega⟩, fun g hg => ⟨(t5 g hg).1, by have := (t5 g hg).2; omega⟩, hD2, hV2, ⟨fun h => by have := (t4 _ h).2; omega, fun h => by have := (t5 _ h).2; omega⟩, ⟨fun h => by have := (t4 _ h).2; omega, fun h => by have := (t5 _ h).2; omega⟩, hbl.trans (hbq.mono (by omega)), by omega⟩
        have hkok := t1.st.kok
        have HR := Lib.hid (And.intro hRd (And.intro hkok (And.intro hcv.out.2.2.2.1 (And.intro hcv.out.2.2.2.2 HX.out.2.2.1)))); clear t1 t2 t3 t4 t5 hD2 hV2 hRd hkok hbq
        have d0 := HR.out.1.d.cell 0 (v := .int .i64 dd) rfl
        obtain ⟨r, hr⟩ : ∃ r, dd % 7 = r := ⟨_, rfl⟩
        have hr7 : 0 ≤ r ∧ r < 7 := by omega
        have hrest := rest_any dd 7 wq HX.out.1 (by omega)
        rw [hr] at hrest
        have HQ := Lib.hid (And.intro hrest (And.intro hr hcv)); clear hrest hr hcv HV
        go_wp2_with fail
        refine HQ.out.1.mono ?_
        rintro e wz ⟨rfl, rfl⟩
        clear d0
        go_upto_block 2 with fail
        go_cut [10, 11, 12, 13, 14, 15, 16, 17, 18, 19] from 54 to 178 (fun v10 v11 v12 v13 v14 v15 v16 v17 v18 v19 W2 => Hid (∃ F2 G2 u2 cs2, Rd w W2 w.heap.size w1.heap.size (w1.heap.size + 1) wo.heap.size (wo.heap.size + 1) dd a b' nn v1 v2 F2 G2 u2 cs2 cs2))
        case first =>
          obtain ⟨c1, c3, x0, x1⟩ := HR.out.1.cells
          rcases (by omega : r = 0 ∨ r = 1 ∨ r = 2 ∨ r = 3 ∨ r = 4 ∨ r = 5 ∨ r = 6) with rfl | rfl | rfl | rfl | rfl | rfl | rfl
          · as_aux_lemma =>
              obtain ⟨E, hE⟩ : ∃ E, maE cs nn = E := ⟨_, rfl⟩
              obtain ⟨X, hX⟩ : ∃ X, (if E = 0 then (cs.length : Int) else 0) = X := ⟨_, rfl⟩
              have hc1 := HR.out.1.stMake
              rw [hE, hX] at hc1
              have HC := Lib.hid (And.intro hc1 (And.intro hE hX)); clear hc1 hE hX
              go_wp2_with fail
              refine HC.out.1.mono ?_
              rintro e wA ⟨rfl, uA, RA⟩
              clear c1 c3 x0 x1
              obtain ⟨c1, c3, x0, x1⟩ := RA.cells
              have hc2 := RA.shMake HR.out.2.1 HR.out.2.2.2.2
              rw [HC.out.2.1, HC.out.2.2] at hc2
              have HD := Lib.hid hc2; clear hc2 RA
              go_wp2_with fail
              refine HD.out.mono ?_
              rintro e wB ⟨rfl, RB⟩
              have HE := Lib.hid RB; clear RB
              have dx : (X != X) = false := by simp
              have de : (E != E) = false := by simp
              go_wp2_with fail
              go_meet
              unfold Hid
              exact ⟨_, _, _, _, HE.out⟩
          · as_aux_lemma =>
              obtain ⟨E, hE⟩ : ∃ E, puE cs a v1 v2 = E := ⟨_, rfl⟩
              have HE := Lib.hid hE; clear hE
              have de : (E != E) = false := by simp
              go_upto_region 24 with fail
              refine wp_region_held_drew (S := (fun w' => w'.cell? ⟨wo.heap.size, 1, none⟩ = some (.int .i64 a) ∧ w'.cell? ⟨wo.heap.size, 3, none⟩ = some (.int .i64 nn) ∧ w'.cell? ⟨wo.heap.size + 1, 0, none⟩ = some (.int .i64 v1) ∧ w'.cell? ⟨wo.heap.size + 1, 1, none⟩ = some (.int .i64 v2))) (by kernel_rfl) ?_ (fun hHeld0 => ?_)
              · first | trivial | ((try dsimp only); (exact HR.out.1.drew.cells))
              refine held_take (v := ?_) 0 rfl (by kernel_rfl) (by kernel_rfl) (by kernel_rfl) (fun _ _ _ h => h) (by rfl) ?_ (by assumption) ?_
              rotate_left
              · (intro w hSw; (try dsimp only at hSw); go_simp; try with_reducible rfl)
              try simp only [Act.put, List.setIfInBounds_toArray, List.set_cons_zero, List.set_cons_succ]
              refine held_take (v := ?_) 1 rfl (by kernel_rfl) (by kernel_rfl) (by kernel_rfl) (fun _ _ _ h => h) (by rfl) ?_ (by assumption) ?_
              rotate_left
              · (intro w hSw; (try dsimp only at hSw); go_simp; try with_reducible rfl)
              try simp only [Act.put, List.setIfInBounds_toArray, List.set_cons_zero, List.set_cons_succ]
              refine held_take (v := ?_) 2 rfl (by kernel_rfl) (by kernel_rfl) (by kernel_rfl) (fun _ _ _ h => h) (by rfl) ?_ (by assumption) ?_
              rotate_left
              · (intro w hSw; (try dsimp only at hSw); go_simp; try with_reducible rfl)
              try simp only [Act.put, List.setIfInBounds_toArray, List.set_cons_zero, List.set_cons_succ]
              refine held_take (v := ?_) 3 rfl (by kernel_rfl) (by kernel_rfl) (by kernel_rfl) (fun _ _ _ h => h) (by rfl) ?_ (by assumption) ?_
              rotate_left
              · (intro w hSw; (try dsimp only at hSw); go_simp; try with_reducible rfl)
              try simp only [Act.put, List.setIfInBounds_toArray, List.set_cons_zero, List.set_cons_succ]
              refine held_take (v := ?_) 5 rfl (by kernel_rfl) (by kernel_rfl) (by kernel_rfl) (fun _ _ _ h => h) (by rfl) ?_ (by assumption) ?_
              rotate_left
              · (intro w hSw; (try dsimp only at hSw); go_simp; try with_reducible rfl)
              try simp only [Act.put, List.setIfInBounds_toArray, List.set_cons_zero, List.set_cons_succ]
              refine held_take (v := ?_) 6 rfl (by kernel_rfl) (by kernel_rfl) (by kernel_rfl) (fun _ _ _ h => h) (by rfl) ?_ (by assumption) ?_
              rotate_left
              · (intro w hSw; (try dsimp only at hSw); go_simp; try with_reducible rfl)
              try simp only [Act.put, List.setIfInBounds_toArray, List.set_cons_zero, List.set_cons_succ]
              refine held_take (v := ?_) 7 rfl (by kernel_rfl) (by kernel_rfl) (by kernel_rfl) (fun _ _ _ h => h) (by rfl) ?_ (by assumption) ?_
              rotate_left
              · (intro w hSw; (try dsimp only at hSw); go_simp; try with_reducible rfl)
              try simp only [Act.put, List.setIfInBounds_toArray, List.set_cons_zero, List.set_cons_succ]
              refine held_take (v := ?_) 8 rfl (by kernel_rfl) (by kernel_rfl) (by kernel_rfl) (fun _ _ _ h => h) (by rfl) ?_ (by assumption) ?_
              rotate_left
              · (intro w hSw; (try dsimp only at hSw); go_simp; try with_reducible rfl)
              try simp only [Act.put, List.setIfInBounds_toArray, List.set_cons_zero, List.set_cons_succ]
              refine held_call 4 (by kernel_rfl) rfl (fun K hK => ?_)
              go_simp
              go_at_call 64; have hcl := HR.out.1.drew.stPush HR.out.2.2.1 HR.out.2.2.2.1; rw [HE.out] at hcl; refine hcl.mono ?_; rintro e wA ⟨rfl, uA, RA⟩
              try (go_wp2_with fail)
              refine hK.out _ _ ?_ (fun hHeld1 => ?_)
              · first | trivial | ((try dsimp only); (exact RA.cells))
              clear hK K hHeld0
              try simp only [Act.put, List.setIfInBounds_toArray, List.set_cons_zero, List.set_cons_succ]
              refine held_call 9 (by kernel_rfl) rfl (fun K hK => ?_)
              go_simp
              go_at_call 65; have hcl := RA.shPush HR.out.2.1 HR.out.2.2.1 HR.out.2.2.2.1; rw [HE.out] at hcl; refine hcl.mono ?_; rintro e wB ⟨rfl, RB⟩
              try (go_wp2_with fail)
              refine hK.out _ _ ?_ (fun hHeld2 => ?_)
              · first | trivial | ((try dsimp only); (exact RB.cells))
              clear hK K hHeld1
              try simp only [Act.put, List.setIfInBounds_toArray, List.set_cons_zero, List.set_cons_succ]
              refine held_take (v := ?_) 10 rfl (by kernel_rfl) (by kernel_rfl) (by kernel_rfl) (fun _ _ _ h => h) (by rfl) ?_ (by assumption) ?_
              rotate_left
              · (intro w hSw; (try dsimp only at hSw); go_simp; try with_reducible rfl)
              try simp only [Act.put, List.setIfInBounds_toArray, List.set_cons_zero, List.set_cons_succ]
              refine wpAnyH_done (by kernel_rfl) ?_ _
              clear RA c1 c3 x0 x1
              have HF := Lib.hid RB
              clear RB
              go_wp2_with fail
              go_meet
              unfold Hid
              exact ⟨_, _, _, _, HF.out⟩
          · as_aux_lemma =>
              obtain ⟨E, hE⟩ : ∃ E, seE cs a nn v1 v2 = E := ⟨_, rfl⟩
              have HE := Lib.hid hE; clear hE
              have de : (E != E) = false := by simp
              go_upto_region 27 with fail
              refine wp_region_held_drew (S := (fun w' => w'.cell? ⟨wo.heap.size, 1, none⟩ = some (.int .i64 a) ∧ w'.cell? ⟨wo.heap.size, 3, none⟩ = some (.int .i64 nn) ∧ w'.cell? ⟨wo.heap.size + 1, 0, none⟩ = some (.int .i64 v1) ∧ w'.cell? ⟨wo.heap.size + 1, 1, none⟩ = some (.int .i64 v2))) (by kernel_rfl) ?_ (fun hHeld0 => ?_)
              · first | trivial | ((try dsimp only); (exact HR.out.1.drew.cells))
              refine held_take (v := ?_) 0 rfl (by kernel_rfl) (by kernel_rfl) (by kernel_rfl) (fun _ _ _ h => h) (by rfl) ?_ (by assumption) ?_
              rotate_left
              · (intro w hSw; (try dsimp only at hSw); go_simp; try with_reducible rfl)
              try simp only [Act.put, List.setIfInBounds_toArray, List.set_cons_zero, List.set_cons_succ]
              refine held_take (v := ?_) 1 rfl (by kernel_rfl) (by kernel_rfl) (by kernel_rfl) (fun _ _ _ h => h) (by rfl) ?_ (by assumption) ?_
              rotate_left
              · (intro w hSw; (try dsimp only at hSw); go_simp; try with_reducible rfl)
              try simp only [Act.put, List.setIfInBounds_toArray, List.set_cons_zero, List.set_cons_succ]
              refine held_take (v := ?_) 2 rfl (by kernel_rfl) (by kernel_rfl) (by kernel_rfl) (fun _ _ _ h => h) (by rfl) ?_ (by assumption) ?_
              rotate_left
              · (intro w hSw; (try dsimp only at hSw); go_simp; try with_reducible rfl)
              try simp only [Act.put, List.setIfInBounds_toArray, List.set_cons_zero, List.set_cons_succ]
              refine held_take (v := ?_) 3 rfl (by kernel_rfl) (by kernel_rfl) (by kernel_rfl) (fun _ _ _ h => h) (by rfl) ?_ (by assumption) ?_
              rotate_left
              · (intro w hSw; (try dsimp only at hSw); go_simp; try with_reducible rfl)
              try simp only [Act.put, List.setIfInBounds_toArray, List.set_cons_zero, List.set_cons_succ]
              refine held_take (v := ?_) 4 rfl (by kernel_rfl) (by kernel_rfl) (by kernel_rfl) (fun _ _ _ h => h) (by rfl) ?_ (by assumption) ?_
              rotate_left
              · (intro w hSw; (try dsimp only at hSw); go_simp; try with_reducible rfl)
              try simp only [Act.put, List.setIfInBounds_toArray, List.set_cons_zero, List.set_cons_succ]
              refine held_take (v := ?_) 5 rfl (by kernel_rfl) (by kernel_rfl) (by kernel_rfl) (fun _ _ _ h => h) (by rfl) ?_ (by assumption) ?_
              rotate_left
              · (intro w hSw; (try dsimp only at hSw); go_simp; try with_reducible rfl)
              try simp only [Act.put, List.setIfInBounds_toArray, List.set_cons_zero, List.set_cons_succ]
              refine held_take (v := ?_) 7 rfl (by kernel_rfl) (by kernel_rfl) (by kernel_rfl) (fun _ _ _ h => h) (by rfl) ?_ (by assumption) ?_
              rotate_left
              · (intro w hSw; (try dsimp only at hSw); go_simp; try with_reducible rfl)
              try simp only [Act.put, List.setIfInBounds_toArray, List.set_cons_zero, List.set_cons_succ]
              refine held_take (v := ?_) 8 rfl (by kernel_rfl) (by kernel_rfl) (by kernel_rfl) (fun _ _ _ h => h) (by rfl) ?_ (by assumption) ?_
              rotate_left
              · (intro w hSw; (try dsimp only at hSw); go_simp; try with_reducible rfl)
              try simp only [Act.put, List.setIfInBounds_toArray, List.set_cons_zero, List.set_cons_succ]
              refine held_take (v := ?_) 9 rfl (by kernel_rfl) (by kernel_rfl) (by kernel_rfl) (fun _ _ _ h => h) (by rfl) ?_ (by assumption) ?_
              rotate_left
              · (intro w hSw; (try dsimp only at hSw); go_simp; try with_reducible rfl)
              try simp only [Act.put, List.setIfInBounds_toArray, List.set_cons_zero, List.set_cons_succ]
              refine held_take (v := ?_) 10 rfl (by kernel_rfl) (by kernel_rfl) (by kernel_rfl) (fun _ _ _ h => h) (by rfl) ?_ (by assumption) ?_
              rotate_left
              · (intro w hSw; (try dsimp only at hSw); go_simp; try with_reducible rfl)
              try simp only [Act.put, List.setIfInBounds_toArray, List.set_cons_zero, List.set_cons_succ]
              refine held_take (v := ?_) 11 rfl (by kernel_rfl) (by kernel_rfl) (by kernel_rfl) (fun _ _ _ h => h) (by rfl) ?_ (by assumption) ?_
              rotate_left
              · (intro w hSw; (try dsimp only at hSw); go_simp; try with_reducible rfl)
              try simp only [Act.put, List.setIfInBounds_toArray, List.set_cons_zero, List.set_cons_succ]
              refine held_take (v := ?_) 12 rfl (by kernel_rfl) (by kernel_rfl) (by kernel_rfl) (fun _ _ _ h => h) (by rfl) ?_ (by assumption) ?_
              rotate_left
              · (intro w hSw; (try dsimp only at hSw); go_simp; try with_reducible rfl)
              try simp only [Act.put, List.setIfInBounds_toArray, List.set_cons_zero, List.set_cons_succ]
              refine held_call 6 (by kernel_rfl) rfl (fun K hK => ?_)
              go_simp
              go_at_call 66; have hcl := HR.out.1.drew.stSet HR.out.2.2.1 HR.out.2.2.2.1; rw [HE.out] at hcl; refine hcl.mono ?_; rintro e wA ⟨rfl, uA, RA⟩
              try (go_wp2_with fail)
              refine hK.out _ _ ?_ (fun hHeld1 => ?_)
              · first | trivial | ((try dsimp only); (exact RA.cells))
              clear hK K hHeld0
              try simp only [Act.put, List.setIfInBounds_toArray, List.set_cons_zero, List.set_cons_succ]
              refine held_call 13 (by kernel_rfl) rfl (fun K hK => ?_)
              go_simp
              go_at_call 67; have hcl := RA.shSet HR.out.2.1 HR.out.2.2.1 HR.out.2.2.2.1; rw [HE.out] at hcl; refine hcl.mono ?_; rintro e wB ⟨rfl, RB⟩
              try (go_wp2_with fail)
              refine hK.out _ _ ?_ (fun hHeld2 => ?_)
              · first | trivial | ((try dsimp only); (exact RB.cells))
              clear hK K hHeld1
              try simp only [Act.put, List.setIfInBounds_toArray, List.set_cons_zero, List.set_cons_succ]
              refine held_take (v := ?_) 14 rfl (by kernel_rfl) (by kernel_rfl) (by kernel_rfl) (fun _ _ _ h => h) (by rfl) ?_ (by assumption) ?_
              rotate_left
              · (intro w hSw; (try dsimp only at hSw); go_simp; try with_reducible rfl)
              try simp only [Act.put, List.setIfInBounds_toArray, List.set_cons_zero, List.set_cons_succ]
              refine wpAnyH_done (by kernel_rfl) ?_ _
              clear RA c1 c3 x0 x1
              have HF := Lib.hid RB
              clear RB
              go_wp2_with fail
              go_meet
              unfold Hid
              exact ⟨_, _, _, _, HF.out⟩
          · as_aux_lemma =>
              obtain ⟨E, hE⟩ : ∃ E, geE cs a nn = E := ⟨_, rfl⟩
              obtain ⟨X, hX⟩ : ∃ X, geV cs a nn = X := ⟨_, rfl⟩
              have hc1 := HR.out.1.stGet
              rw [hE, hX] at hc1
              obtain ⟨X1, X2⟩ := X
              simp only at hc1
              have HC := Lib.hid (And.intro hc1 (And.intro hE hX)); clear hc1 hE hX
              go_wp2_with fail
              refine HC.out.1.mono ?_
              rintro e wA ⟨rfl, hbA⟩
              clear c1 c3 x0 x1
              have RA := HR.out.1.fresh hbA
              obtain ⟨c1, c3, x0, x1⟩ := RA.cells
              go_upto_region 31 with fail
              refine wp_world (fun Z => Rd w Z w.heap.size w1.heap.size (w1.heap.size + 1) wo.heap.size (wo.heap.size + 1) dd a b' nn v1 v2 F G u cs cs ∧ Blk Z wA.heap.size 23 #[.int .i64 X1, .int .i64 X2]) ⟨RA.fresh ((Below.refl _ _).alloc (Nat.le_refl _) _), Blk.new _ _ _⟩ ?_
              rintro Z ⟨RZ, hGA⟩
              clear c1 c3 x0 x1
              obtain ⟨c1, c3, x0, x1⟩ := RZ.cells
              have hc2 := RZ.shGet HR.out.2.1
              rw [HC.out.2.1, HC.out.2.2] at hc2
              simp only at hc2
              have HD := Lib.hid (And.intro hc2 (And.intro RZ hGA)); clear hc2 RA RZ hGA hbA
              go_wp2_with fail
              refine HD.out.1.mono ?_
              rintro e wB ⟨rfl, hbB⟩
              have RB := HD.out.2.1.fresh hbB
              have hGB := HD.out.2.2.fresh hbB
              clear c1 c3 x0 x1
              go_upto_region 32 with fail
              refine wp_world (fun Y => Rd w Y w.heap.size w1.heap.size (w1.heap.size + 1) wo.heap.size (wo.heap.size + 1) dd a b' nn v1 v2 F G u cs cs ∧ Blk Y wA.heap.size 23 #[.int .i64 X1, .int .i64 X2] ∧ Blk Y wB.heap.size 23 #[.int .i64 X1, .int .i64 X2]) ⟨RB.fresh ((Below.refl _ _).alloc (Nat.le_refl _) _), hGB.alloc _, Blk.new _ _ _⟩ ?_
              rintro Y ⟨RY, hGA, hGB2⟩
              have g0 := hGA.cell 0 (v := .int .i64 X1) rfl
              have g1 := hGA.cell 1 (v := .int .i64 X2) rfl
              have g2 := hGB2.cell 0 (v := .int .i64 X1) rfl
              have g3 := hGB2.cell 1 (v := .int .i64 X2) rfl
              have HE := Lib.hid RY; clear RY hGA hGB2 RB hGB hbB
              have dx1 : (X1 == X1) = true := by simp
              have dx2 : (X2 == X2) = true := by simp
              have de : (E != E) = false := by simp
              go_wp2_with fail
              go_meet
              unfold Hid
              exact ⟨_, _, _, _, HE.out⟩
          · as_aux_lemma =>
              obtain ⟨E, hE⟩ : ∃ E, hoE cs a true = E := ⟨_, rfl⟩
              have HE := Lib.hid hE; clear hE
              have de : (E != E) = false := by simp
              go_upto_region 35 with fail
              refine wp_region_held_drew (S := (fun w' => w'.cell? ⟨wo.heap.size, 1, none⟩ = some (.int .i64 a) ∧ w'.cell? ⟨wo.heap.size, 3, none⟩ = some (.int .i64 nn) ∧ w'.cell? ⟨wo.heap.size + 1, 0, none⟩ = some (.int .i64 v1) ∧ w'.cell? ⟨wo.heap.size + 1, 1, none⟩ = some (.int .i64 v2))) (by kernel_rfl) ?_ (fun hHeld0 => ?_)
              · first | trivial | ((try dsimp only); (exact HR.out.1.drew.cells))
              refine held_take (v := ?_) 0 rfl (by kernel_rfl) (by kernel_rfl) (by kernel_rfl) (fun _ _ _ h => h) (by rfl) ?_ (by assumption) ?_
              rotate_left
              · (intro w hSw; (try dsimp only at hSw); go_simp; try with_reducible rfl)
              try simp only [Act.put, List.setIfInBounds_toArray, List.set_cons_zero, List.set_cons_succ]
              refine held_take (v := ?_) 1 rfl (by kernel_rfl) (by kernel_rfl) (by kernel_rfl) (fun _ _ _ h => h) (by rfl) ?_ (by assumption) ?_
              rotate_left
              · (intro w hSw; (try dsimp only at hSw); go_simp; try with_reducible rfl)
              try simp only [Act.put, List.setIfInBounds_toArray, List.set_cons_zero, List.set_cons_succ]
              refine held_take (v := ?_) 2 rfl (by kernel_rfl) (by kernel_rfl) (by kernel_rfl) (fun _ _ _ h => h) (by rfl) ?_ (by assumption) ?_
              rotate_left
              · (intro w hSw; (try dsimp only at hSw); go_simp; try with_reducible rfl)
              try simp only [Act.put, List.setIfInBounds_toArray, List.set_cons_zero, List.set_cons_succ]
              refine held_take (v := ?_) 4 rfl (by kernel_rfl) (by kernel_rfl) (by kernel_rfl) (fun _ _ _ h => h) (by rfl) ?_ (by assumption) ?_
              rotate_left
              · (intro w hSw; (try dsimp only at hSw); go_simp; try with_reducible rfl)
              try simp only [Act.put, List.setIfInBounds_toArray, List.set_cons_zero, List.set_cons_succ]
              refine held_take (v := ?_) 5 rfl (by kernel_rfl) (by kernel_rfl) (by kernel_rfl) (fun _ _ _ h => h) (by rfl) ?_ (by assumption) ?_
              rotate_left
              · (intro w hSw; (try dsimp only at hSw); go_simp; try with_reducible rfl)
              try simp only [Act.put, List.setIfInBounds_toArray, List.set_cons_zero, List.set_cons_succ]
              refine held_take (v := ?_) 6 rfl (by kernel_rfl) (by kernel_rfl) (by kernel_rfl) (fun _ _ _ h => h) (by rfl) ?_ (by assumption) ?_
              rotate_left
              · (intro w hSw; (try dsimp only at hSw); go_simp; try with_reducible rfl)
              try simp only [Act.put, List.setIfInBounds_toArray, List.set_cons_zero, List.set_cons_succ]
              refine held_call 3 (by kernel_rfl) rfl (fun K hK => ?_)
              go_simp
              go_at_call 70; have hcl := HR.out.1.drew.stHold; rw [HE.out] at hcl; refine hcl.mono ?_; rintro e wA ⟨rfl, uA, RA⟩
              try (go_wp2_with fail)
              refine hK.out _ _ ?_ (fun hHeld1 => ?_)
              · first | trivial | ((try dsimp only); (exact RA.cells))
              clear hK K hHeld0
              try simp only [Act.put, List.setIfInBounds_toArray, List.set_cons_zero, List.set_cons_succ]
              refine held_call 7 (by kernel_rfl) rfl (fun K hK => ?_)
              go_simp
              go_at_call 71; have hcl := RA.shHold HR.out.2.1 true; rw [HE.out] at hcl; refine hcl.mono ?_; rintro e wB ⟨rfl, RB⟩
              try (go_wp2_with fail)
              refine hK.out _ _ ?_ (fun hHeld2 => ?_)
              · first | trivial | ((try dsimp only); (exact RB.cells))
              clear hK K hHeld1
              try simp only [Act.put, List.setIfInBounds_toArray, List.set_cons_zero, List.set_cons_succ]
              refine held_take (v := ?_) 8 rfl (by kernel_rfl) (by kernel_rfl) (by kernel_rfl) (fun _ _ _ h => h) (by rfl) ?_ (by assumption) ?_
              rotate_left
              · (intro w hSw; (try dsimp only at hSw); go_simp; try with_reducible rfl)
              try simp only [Act.put, List.setIfInBounds_toArray, List.set_cons_zero, List.set_cons_succ]
              refine wpAnyH_done (by kernel_rfl) ?_ _
              clear RA c1 c3 x0 x1
              have HF := Lib.hid RB
              clear RB
              go_wp2_with fail
              go_meet
              unfold Hid
              exact ⟨_, _, _, _, HF.out⟩
          · as_aux_lemma =>
              obtain ⟨E, hE⟩ : ∃ E, hoE cs a false = E := ⟨_, rfl⟩
              have HE := Lib.hid hE; clear hE
              have de : (E != E) = false := by simp
              go_upto_region 38 with fail
              refine wp_region_held_drew (S := (fun w' => w'.cell? ⟨wo.heap.size, 1, none⟩ = some (.int .i64 a) ∧ w'.cell? ⟨wo.heap.size, 3, none⟩ = some (.int .i64 nn) ∧ w'.cell? ⟨wo.heap.size + 1, 0, none⟩ = some (.int .i64 v1) ∧ w'.cell? ⟨wo.heap.size + 1, 1, none⟩ = some (.int .i64 v2))) (by kernel_rfl) ?_ (fun hHeld0 => ?_)
              · first | trivial | ((try dsimp only); (exact HR.out.1.drew.cells))
              refine held_take (v := ?_) 0 rfl (by kernel_rfl) (by kernel_rfl) (by kernel_rfl) (fun _ _ _ h => h) (by rfl) ?_ (by assumption) ?_
              rotate_left
              · (intro w hSw; (try dsimp only at hSw); go_simp; try with_reducible rfl)
              try simp only [Act.put, List.setIfInBounds_toArray, List.set_cons_zero, List.set_cons_succ]
              refine held_take (v := ?_) 1 rfl (by kernel_rfl) (by kernel_rfl) (by kernel_rfl) (fun _ _ _ h => h) (by rfl) ?_ (by assumption) ?_
              rotate_left
              · (intro w hSw; (try dsimp only at hSw); go_simp; try with_reducible rfl)
              try simp only [Act.put, List.setIfInBounds_toArray, List.set_cons_zero, List.set_cons_succ]
              refine held_take (v := ?_) 2 rfl (by kernel_rfl) (by kernel_rfl) (by kernel_rfl) (fun _ _ _ h => h) (by rfl) ?_ (by assumption) ?_
              rotate_left
              · (intro w hSw; (try dsimp only at hSw); go_simp; try with_reducible rfl)
              try simp only [Act.put, List.setIfInBounds_toArray, List.set_cons_zero, List.set_cons_succ]
              refine held_take (v := ?_) 4 rfl (by kernel_rfl) (by kernel_rfl) (by kernel_rfl) (fun _ _ _ h => h) (by rfl) ?_ (by assumption) ?_
              rotate_left
              · (intro w hSw; (try dsimp only at hSw); go_simp; try with_reducible rfl)
              try simp only [Act.put, List.setIfInBounds_toArray, List.set_cons_zero, List.set_cons_succ]
              refine held_take (v := ?_) 5 rfl (by kernel_rfl) (by kernel_rfl) (by kernel_rfl) (fun _ _ _ h => h) (by rfl) ?_ (by assumption) ?_
              rotate_left
              · (intro w hSw; (try dsimp only at hSw); go_simp; try with_reducible rfl)
              try simp only [Act.put, List.setIfInBounds_toArray, List.set_cons_zero, List.set_cons_succ]
              refine held_take (v := ?_) 6 rfl (by kernel_rfl) (by kernel_rfl) (by kernel_rfl) (fun _ _ _ h => h) (by rfl) ?_ (by assumption) ?_
              rotate_left
              · (intro w hSw; (try dsimp only at hSw); go_simp; try with_reducible rfl)
              try simp only [Act.put, List.setIfInBounds_toArray, List.set_cons_zero, List.set_cons_succ]
              refine held_call 3 (by kernel_rfl) rfl (fun K hK => ?_)
              go_simp
              go_at_call 72; have hcl := HR.out.1.drew.stDrop; rw [HE.out] at hcl; refine hcl.mono ?_; rintro e wA ⟨rfl, uA, RA⟩
              try (go_wp2_with fail)
              refine hK.out _ _ ?_ (fun hHeld1 => ?_)
              · first | trivial | ((try dsimp only); (exact RA.cells))
              clear hK K hHeld0
              try simp only [Act.put, List.setIfInBounds_toArray, List.set_cons_zero, List.set_cons_succ]
              refine held_call 7 (by kernel_rfl) rfl (fun K hK => ?_)
              go_simp
              go_at_call 71; have hcl := RA.shHold HR.out.2.1 false; rw [HE.out] at hcl; refine hcl.mono ?_; rintro e wB ⟨rfl, RB⟩
              try (go_wp2_with fail)
              refine hK.out _ _ ?_ (fun hHeld2 => ?_)
              · first | trivial | ((try dsimp only); (exact RB.cells))
              clear hK K hHeld1
              try simp only [Act.put, List.setIfInBounds_toArray, List.set_cons_zero, List.set_cons_succ]
              refine held_take (v := ?_) 8 rfl (by kernel_rfl) (by kernel_rfl) (by kernel_rfl) (fun _ _ _ h => h) (by rfl) ?_ (by assumption) ?_
              rotate_left
              · (intro w hSw; (try dsimp only at hSw); go_simp; try with_reducible rfl)
              try simp only [Act.put, List.setIfInBounds_toArray, List.set_cons_zero, List.set_cons_succ]
              refine wpAnyH_done (by kernel_rfl) ?_ _
              clear RA c1 c3 x0 x1
              have HF := Lib.hid RB
              clear RB
              go_wp2_with fail
              go_meet
              unfold Hid
              exact ⟨_, _, _, _, HF.out⟩
          · as_aux_lemma =>
              obtain ⟨S, hS⟩ : ∃ S, sW cs cs.length = S := ⟨_, rfl⟩
              have hle := HR.out.1.st.le
              rw [hS] at hle
              have hus := st_used _ w.heap.size w1.heap.size u F cs HR.out.1.st
              have hco := HR.out.1.stCollect
              rw [hS] at hco
              obtain ⟨N, hN⟩ : ∃ N : Nat, u - S = N := ⟨_, rfl⟩
              have e1 : (u : Int) - (S : Int) = (N : Int) := by omega
              rw [e1] at hco
              have HC := Lib.hid (And.intro hus (And.intro hco hS)); clear hus hco hS c1 c3 x0 x1
              have dn : decide ((N : Int) < 0) = false := by simp
              have e2 : IntKind.i64.wrap ((u : Int) - (N : Int)) = (S : Int) := by rw [IntWalk.i64_in _ (by omega)]; omega
              have ds : ((S : Int) != (S : Int)) = false := by simp
              go_wp2_with fail
              refine HC.out.1.mono ?_
              rintro e wA ⟨rfl, rfl⟩
              go_wp2_with fail
              refine HC.out.2.1.mono ?_
              rintro e wA ⟨rfl, RA⟩
              have hus2 := st_used wA w.heap.size w1.heap.size S _ cs RA.st
              have hwd := sh_words wA w.heap.size (w1.heap.size + 1) G cs RA.sh HR.out.2.1
              rw [HC.out.2.2] at hwd
              have HD := Lib.hid (And.intro RA (And.intro hus2 hwd)); clear RA hus2 hwd
              go_wp2_with fail
              refine HD.out.2.1.mono ?_
              rintro e wB ⟨rfl, rfl⟩
              go_wp2_with fail
              refine HD.out.2.2.mono ?_
              rintro e wB ⟨rfl, hbB⟩
              have RB := HD.out.1.fresh hbB
              have hwd := sh_words wB w.heap.size (w1.heap.size + 1) G cs RB.sh HR.out.2.1
              rw [HC.out.2.2] at hwd
              have HE := Lib.hid (And.intro RB hwd); clear RB hwd hbB
              go_wp2_with fail
              refine HE.out.2.mono ?_
              rintro e wC ⟨rfl, hbC⟩
              have HF := Lib.hid (HE.out.1.fresh hbC); clear hbC
              go_wp2_with fail
              go_meet
              unfold Hid
              exact ⟨_, _, _, _, HF.out⟩
        case rest =>
          obtain ⟨F2, G2, u2, cs2, R2⟩ := hcut.out
          obtain ⟨wy, rfl⟩ : ∃ x : World, x = wc := ⟨_, rfl⟩
          have hk2 := R2.st.st.kok
          obtain ⟨E, hE⟩ : ∃ E, sNm cs2 a = E := ⟨_, rfl⟩
          have hct := st_count wy w.heap.size w1.heap.size a F2 cs2 R2.st.st
          rw [hE] at hct
          obtain ⟨N, hN⟩ : ∃ N : Int, (if E = 0 then (vlenAt cs2 a.toNat : Int) else 0) = N := ⟨_, rfl⟩
          obtain ⟨M, hM⟩ : ∃ M : Int, (if E = 0 then markAt cs2 a.toNat else 0) = M := ⟨_, rfl⟩
          rw [hN] at hct
          have c1 := R2.d.cell 1 (v := .int .i64 a) rfl
          have HT := Lib.hid (And.intro R2 (And.intro hk2 (And.intro hE (And.intro hN (And.intro hM hct))))); clear R2 hk2 hE hN hM hct hcut HR HQ
          go_wp2_with fail
          refine HT.out.2.2.2.2.2.mono ?_
          rintro e wA ⟨rfl, hbA⟩
          have RA := HT.out.1.fresh hbA
          have hmk := st_mark wA w.heap.size w1.heap.size a F2 cs2 RA.st.st
          rw [HT.out.2.2.1] at hmk
          clear c1
          have c1 := RA.d.cell 1 (v := .int .i64 a) rfl
          have HA := Lib.hid (And.intro RA hmk); clear RA hmk hbA
          go_wp2_with fail
          refine HA.out.2.mono ?_
          rintro e wB ⟨rfl, hbB⟩
          rw [HT.out.2.2.2.2.1]
          have RB := HA.out.1.fresh hbB
          have hnm := sh_named wB w.heap.size (w1.heap.size + 1) a G2 cs2 RB.sh HT.out.2.1
          rw [HT.out.2.2.1] at hnm
          clear c1
          have c1 := RB.d.cell 1 (v := .int .i64 a) rfl
          have HB := Lib.hid (And.intro RB hnm); clear RB hnm hbB
          go_wp2_with fail
          refine HB.out.2.mono ?_
          rintro e wC ⟨rfl, hbC⟩
          have RC := HB.out.1.fresh hbC
          clear c1
          have c1 := RC.d.cell 1 (v := .int .i64 a) rfl
          by_cases h0 : E = 0
          · subst h0
            obtain ⟨ka, ca, rfl, hca, hna⟩ := sNm_get HT.out.2.2.1
            obtain ⟨A', cc', l2, r1, r2, r3, r4, r5⟩ := RC.sh
            have hca2 := hca
            rw [← r5] at hca2
            obtain ⟨x2, hx2, hxc2⟩ := get_kps hca2
            obtain ⟨g2, rfl, hg1, hg2, m0, m1, -⟩ := r2.cells hx2
            have p0 := r1.cell 0 (v := .slice (some ⟨g2, 0, none⟩) l2.length cc') rfl
            have kl2 : (ka : Int) < (l2.length : Int) := by have := (List.getElem?_eq_some_iff.1 hx2).1; omega
            have ka0 : (0 : Int) ≤ (ka : Int) := by omega
            have hNv : N = (x2.vals.length : Int) := by
              rw [← HT.out.2.2.2.1, if_pos rfl, Int.toNat_natCast]
              unfold vlenAt; rw [hca, ← hxc2]; rfl
            have hMv : M = x2.mark := by
              rw [← HT.out.2.2.2.2.1, if_pos rfl, Int.toNat_natCast]
              unfold markAt; rw [hca, ← hxc2]; rfl
            rw [← hMv] at m0
            obtain ⟨vl, hvl2⟩ : ∃ v, x2.vals.length = v := ⟨_, rfl⟩
            rw [hvl2] at m1 hNv
            subst hNv
            have dv : ((vl : Int) != (vl : Int)) = false := by simp
            have dm : (M != M) = false := by simp
            have HC := Lib.hid RC; clear RC r1 r2 r3 r4 r5 hca hca2 hx2 hxc2 hMv hvl2 hna hbC
            go_upto_region 43 with fail
            go_quiet (fail)
            go_wp2_with fail
            go_roundg (n - (k + 1))
            case measure => omega
            case rel => exact ⟨k + 1, by omega, rfl, by go_num, (HC.out.drewN _).two, (HC.out.drewN _).bel⟩
          · have hNv : N = 0 := by rw [← HT.out.2.2.2.1, if_neg h0]
            have hMv : M = 0 := by rw [← HT.out.2.2.2.2.1, if_neg h0]
            subst hNv hMv
            have de : (E != E) = false := by simp
            have d0 : (E != 0) = true := by simpa using h0
            have d1 : (E == 0) = false := by simpa using h0
            have HC := Lib.hid RC; clear RC h0 hbC
            go_upto_region 43 with fail
            go_quiet (fail)
            go_wp2_with fail
            go_roundg (n - (k + 1))
            case measure => omega
            case rel => exact ⟨k + 1, by omega, rfl, by go_num, (HC.out.drewN _).two, (HC.out.drewN _).bel⟩
    · obtain rfl : n = k := by omega
      obtain ⟨F, G, u, cs, t1, t2, t3, t4, t5⟩ := hkeep.out
      have hus := st_used wo w.heap.size w1.heap.size u F cs t1
      have hwd := sh_words wo w.heap.size (w1.heap.size + 1) G cs t2 t1.st.kok
      have hle := t1.le
      obtain ⟨S, hS⟩ : ∃ S, sW cs cs.length = S := ⟨_, rfl⟩
      rw [hS] at hwd hle
      have HE := Lib.hid (And.intro hus hwd); clear hus hwd t1 t2 t3 t4 t5 hkeep hS
      have ds : (S : Int) ≤ (u : Int) := by omega
      go_wp2_with fail
      refine HE.out.1.mono ?_
      rintro e wA ⟨rfl, rfl⟩
      go_wp2_with fail
      refine HE.out.2.mono ?_
      rintro e wB ⟨rfl, hbB⟩
      go_wp2_with fail
      go_returns
      exact ⟨rfl, hbl.trans (hbB.mono hsz)⟩
end Sto
end Go.Proofs.Ytpkccpegdpodoaa

/-
  From an argument's reading to Lean's data: what it asks of a type, and the general laws (integers, structs of integers, slices).
-/
namespace Go.Proofs.Ytpkccpegdpodoaa
open Go.RowKit Go.ChangeShapes Go.WideShapes Go.Deep

/-- how many bytes a value of the type has, whether a value's slices fit a bound on bytes, how many values it holds -/
class Meas (α : Type) where
  bytes : Nat
  fits : Nat → α → Prop
  blk : α → Nat

def blkSum {α : Type} [Meas α] : List α → Nat
  | [] => 0
  | x :: l => Meas.blk x + blkSum l

instance : Meas Int where
  bytes := 8
  fits _ _ := True
  blk _ := 1
instance : Meas (Int × Int) where
  bytes := 16
  fits _ _ := True
  blk _ := 3
instance : Meas (Int × Int × Int) where
  bytes := 24
  fits _ _ := True
  blk _ := 5
instance : Meas U64 where
  bytes := 8
  fits _ _ := True
  blk _ := 1
instance {α : Type} [Meas α] : Meas (List α) where
  bytes := 24
  fits M l := l.length * Meas.bytes α ≤ M ∧ ∀ x ∈ l, Meas.fits M x
  blk l := blkSum l + 1

theorem bulk_pos {H : Type} (d : DataW H) : 1 ≤ Rows.uptoBulk d := by
  cases d with
  | lit l => cases l <;> simp [Rows.uptoBulk]
  | nil => simp [Rows.uptoBulk]
  | ptr d => simp [Rows.uptoBulk]
  | slice elems spare => simp [Rows.uptoBulk]
  | agg parts => simp [Rows.uptoBulk]
  | iface t d => simp [Rows.uptoBulk]
  | map entries => simp [Rows.uptoBulk]
  | held h => simp [Rows.uptoBulk]

/-- a type of the program's whose every reading is Lean's data of type α -/
def Opens (α : Type) [Enc α] [Meas α] (P : Program) (t : TypeId) : Prop :=
  P.bytesOf t = Meas.bytes α ∧ P.cellsOf t = Enc.sz α ∧ 0 < Enc.sz α ∧
    ∀ (H : Type) (enc : TypeId × Value → H) (w : World) (spare : Nat → Bool) (held : Bool) (fuel : Nat) (cs : List Value) (x : DataW H × List MemPlace), DataW.trod enc P w 0 spare held fuel t cs = some x →
      ∃ a : α, Enc.rd w w.heap.size cs a ∧ (∀ M, (∀ n ∈ x.1.weights P t, n ≤ M) → Meas.fits M a) ∧ Meas.blk a ≤ Rows.uptoBulk x.1

theorem opens_int {P : Program} {t : TypeId} (ht : P.underlying t = some (.int .i64)) (hb : P.bytesOf t = 8) (hc : P.cellsOf t = 1) : Opens Int P t := by
  refine ⟨hb, hc, Nat.zero_lt_one, fun H enc w spare held fuel cs x h => ?_⟩
  obtain ⟨n, rfl, rfl, hwf⟩ := DataW.trod_int ht h
  refine ⟨n, ⟨rfl, ?_⟩, fun _ _ => trivial, bulk_pos _⟩
  have : -9223372036854775808 ≤ n ∧ n ≤ 9223372036854775807 := by simpa [Lit.wf, IntKind.min, IntKind.max, IntKind.signed, IntKind.bits] using hwf
  exact this

theorem opens_u64 {P : Program} {t : TypeId} (ht : P.underlying t = some (.int .u64)) (hb : P.bytesOf t = 8) (hc : P.cellsOf t = 1) : Opens U64 P t := by
  refine ⟨hb, hc, Nat.zero_lt_one, fun H enc w spare held fuel cs x h => ?_⟩
  obtain ⟨n, rfl, rfl, hwf⟩ := DataW.trod_int ht h
  refine ⟨⟨n⟩, ⟨rfl, ?_⟩, fun _ _ => trivial, bulk_pos _⟩
  have : 0 ≤ n ∧ n ≤ 18446744073709551615 := by simpa [Lit.wf, IntKind.min, IntKind.max, IntKind.signed, IntKind.bits] using hwf
  exact this

theorem mem_weightsAll {H : Type} {P : Program} {e : TypeId} {l : List (DataW H)} {d : DataW H} (hd : d ∈ l) : ∀ n ∈ d.weights P e, n ∈ DataW.weightsAll P e l := by
  induction l with
  | nil => cases hd
  | cons y l ih =>
    intro n hn
    simp only [DataW.weightsAll, List.mem_append]
    rcases List.mem_cons.1 hd with rfl | h
    · exact .inl hn
    · exact .inr (ih h n hn)

theorem blkSum_le {α H : Type} [Meas α] (f : Nat → α) (D : Nat → DataW H) : ∀ n, (∀ i, i < n → Meas.blk (f i) ≤ Rows.uptoBulk (D i)) → blkSum ((List.range n).map f) ≤ Rows.uptoBulkAll ((List.range n).map D) := by
  intro n
  have key : ∀ l : List Nat, (∀ i ∈ l, Meas.blk (f i) ≤ Rows.uptoBulk (D i)) → blkSum (l.map f) ≤ Rows.uptoBulkAll (l.map D) := by
    intro l
    induction l with
    | nil => intro _; simp [blkSum, Rows.uptoBulkAll]
    | cons i l ih =>
      intro h
      simp only [List.map_cons, blkSum, Rows.uptoBulkAll]
      have h1 := h i (by simp)
      have h2 := ih fun j hj => h j (by simp [hj])
      omega
  exact fun h => key _ fun i hi => h i (List.mem_range.1 hi)

theorem opens_list {α : Type} [Enc α] [Meas α] [Inhabited α] {P : Program} {t e : TypeId} (ht : P.underlying t = some (.slice e)) (hb : P.bytesOf t = 24) (hc : P.cellsOf t = 1) (he : Opens α P e) : Opens (List α) P t := by
  refine ⟨hb, hc, Nat.zero_lt_one, fun H enc w spare held fuel cs x h => ?_⟩
  rcases open_slice ht h with ⟨rfl, rfl⟩ | ⟨a, len, cap, m, n, D, Pl, rfl, hba, hl, hm, hmm, rfl, hi⟩
  · exact ⟨[], ⟨none, 0, rfl, Nat.le_refl _, by simp [maxLen], fun _ => rfl, At.nil_⟩, fun _ _ => ⟨by simp, by simp⟩, by simp [Meas.blk, blkSum, Rows.uptoBulk]⟩
  · have hlm : len ≤ m := by subst hmm; split <;> omega
    obtain ⟨f, hf⟩ := choose_lt (α := α) (n := len) (p := fun i y => ∃ cs', w.cells? 0 (a.add (i * P.cellsOf e)) (P.cellsOf e) = some cs' ∧ Enc.rd w w.heap.size cs' y ∧ (∀ M, (∀ n ∈ (D i).weights P e, n ≤ M) → Meas.fits M y) ∧ Meas.blk y ≤ Rows.uptoBulk (D i)) (fun i hil => by
      obtain ⟨cs', h1, h2⟩ := hi i (by omega)
      obtain ⟨y, hy1, hy2, hy3⟩ := he.2.2.2 H enc w spare held n cs' (D i, Pl i) h2
      exact ⟨y, cs', h1, hy1, hy2, hy3⟩)
    refine ⟨(List.range len).map f, ⟨some a, cap, by simp, by simpa using hl, hm, by simp, ?_⟩, fun M hM => ⟨?_, ?_⟩, ?_⟩
    · intro i y hy
      have hil : i < len := by
        have := (List.getElem?_eq_some_iff.1 hy).1
        simpa using this
      have hyf : y = f i := by
        rw [List.getElem?_map, List.getElem?_range hil] at hy
        simpa using hy.symm
      subst hyf
      have hspot : a.spot = none := by
        obtain ⟨cs0, h1, -, -, -⟩ := hf 0 (by omega)
        obtain ⟨-, hlen, hcell⟩ := World.cells?_some h1
        rw [he.2.1] at hlen hcell
        have h0 := hcell 0 he.2.2.1
        rw [List.getElem?_eq_getElem (by rw [hlen]; exact he.2.2.1), Nat.zero_mul] at h0
        exact World.cell?_spot (a := a) h0
      obtain ⟨cs', h1, h2, -, -⟩ := hf i hil
      obtain ⟨-, hlen, hcell⟩ := World.cells?_some h1
      rw [he.2.1] at hlen hcell h1
      obtain ⟨b, o, spot⟩ := a
      have hpos := he.2.2.1
      have h0 := hcell 0 hpos
      rw [List.getElem?_eq_getElem (by omega)] at h0
      simp only at hspot
      subst hspot
      refine ⟨b, o, cs', rfl, ?_, ?_, h2⟩
      · rw [add_mk, add_mk] at h0
        exact block_lt_of_cell h0
      · intro j u hu
        have hj : j < Enc.sz α := by rw [← hlen]; exact (List.getElem?_eq_some_iff.1 hu).1
        have := hcell j hj
        rw [add_mk, add_mk, hu] at this
        exact this
    · have h1 := hM ((len + (m - len)) * P.bytesOf e) (by simp [DataW.weights, ht])
      rw [he.1] at h1
      simp only [List.length_map, List.length_range]
      exact Nat.le_trans (Nat.mul_le_mul_right _ (by omega)) h1
    · intro y hy
      obtain ⟨i, hi', rfl⟩ := List.mem_map.1 hy
      have hil := List.mem_range.1 hi'
      obtain ⟨-, -, -, h3, -⟩ := hf i hil
      refine h3 M fun n hn => hM n ?_
      simp only [DataW.weights, ht, List.mem_cons, List.mem_append]
      exact .inr (.inl (mem_weightsAll (List.mem_map.2 ⟨i, hi', rfl⟩) n hn))
    · have h1 := blkSum_le f D len fun i hil => by
        obtain ⟨-, -, -, -, h4⟩ := hf i hil
        exact h4
      simp only [Meas.blk, Rows.uptoBulk]
      omega

/-- a list of known length, written out -/
theorem len1 {α : Type} {l : List α} (h : l.length = 1) : ∃ a, l = [a] := by
  match l, h with | [a], _ => exact ⟨a, rfl⟩
theorem lenS {α : Type} {l : List α} {n : Nat} (h : l.length = n + 1) : ∃ a r, l = a :: r ∧ r.length = n := by
  match l, h with | a :: r, h => exact ⟨a, r, rfl, by simpa using h⟩

end Go.Proofs.Ytpkccpegdpodoaa

/-
  The types of this seat's arguments, opened (printed by genopen.py).
-/
namespace Go.Proofs.Ytpkccpegdpodoaa
open Go.RowKit Go.ChangeShapes Go.WideShapes Go.Deep

theorem opens_Int : Opens Int Try.prog 3 := opens_int Try.underlying3 (by kernel_rfl) (by kernel_rfl)

theorem opens_P_Val : Opens (Int × Int) Try.prog 23 := by
  refine ⟨by kernel_rfl, by kernel_rfl, by decide, ?_⟩
  intro H enc w spare held fuel cs x h
  obtain ⟨xs, n, -, rfl, hl, hxl, hf⟩ := DataW.trod_struct Try.underlying23 h
  have hl' : cs.length = 1 + 1 := hl.trans (by kernel_rfl)
  have hxl' : xs.length = 1 + 1 := hxl
  obtain ⟨c0, r, rfl, hl2⟩ := lenS hl'
  obtain ⟨c1, rfl⟩ := len1 hl2
  obtain ⟨y0, s, rfl, hxl2⟩ := lenS hxl'
  obtain ⟨y1, rfl⟩ := len1 hxl2
  have g0 : DataW.trod enc Try.prog w 0 spare held n 3 (([c0, c1].drop 0).take (Try.prog.cellsOf 3)) = some y0 := hf 0 _ rfl
  have g1 : DataW.trod enc Try.prog w 0 spare held n 3 (([c0, c1].drop 1).take (Try.prog.cellsOf 3)) = some y1 := hf 1 _ rfl
  rw [show Try.prog.cellsOf 3 = 1 from opens_Int.2.1] at g0 g1
  obtain ⟨a0, ⟨e0, i0⟩, -, -⟩ := opens_Int.2.2.2 _ _ _ _ _ _ _ _ g0
  obtain ⟨a1, ⟨e1, i1⟩, -, -⟩ := opens_Int.2.2.2 _ _ _ _ _ _ _ _ g1
  injection e0 with e0; subst e0
  injection e1 with e1; subst e1
  refine ⟨(a0, a1), ⟨rfl, i0, i1⟩, fun _ _ => trivial, ?_⟩
  have b0 := bulk_pos y0.1
  have b1 := bulk_pos y1.1
  simp only [Meas.blk, Rows.uptoBulk, Rows.uptoBulkAll, List.map_cons, List.map_nil]
  omega
theorem opens_P_Val_l : Opens (List (Int × Int)) Try.prog 35 := opens_list Try.underlying35 (by kernel_rfl) (by kernel_rfl) opens_P_Val

theorem opens_P_Try : Opens (Int × Int) Try.prog 152 := by
  refine ⟨by kernel_rfl, by kernel_rfl, by decide, ?_⟩
  intro H enc w spare held fuel cs x h
  obtain ⟨xs, n, -, rfl, hl, hxl, hf⟩ := DataW.trod_struct Try.underlying152 h
  have hl' : cs.length = 1 + 1 := hl.trans (by kernel_rfl)
  have hxl' : xs.length = 1 + 1 := hxl
  obtain ⟨c0, r, rfl, hl2⟩ := lenS hl'
  obtain ⟨c1, rfl⟩ := len1 hl2
  obtain ⟨y0, s, rfl, hxl2⟩ := lenS hxl'
  obtain ⟨y1, rfl⟩ := len1 hxl2
  have g0 : DataW.trod enc Try.prog w 0 spare held n 3 (([c0, c1].drop 0).take (Try.prog.cellsOf 3)) = some y0 := hf 0 _ rfl
  have g1 : DataW.trod enc Try.prog w 0 spare held n 3 (([c0, c1].drop 1).take (Try.prog.cellsOf 3)) = some y1 := hf 1 _ rfl
  rw [show Try.prog.cellsOf 3 = 1 from opens_Int.2.1] at g0 g1
  obtain ⟨a0, ⟨e0, i0⟩, -, -⟩ := opens_Int.2.2.2 _ _ _ _ _ _ _ _ g0
  obtain ⟨a1, ⟨e1, i1⟩, -, -⟩ := opens_Int.2.2.2 _ _ _ _ _ _ _ _ g1
  injection e0 with e0; subst e0
  injection e1 with e1; subst e1
  refine ⟨(a0, a1), ⟨rfl, i0, i1⟩, fun _ _ => trivial, ?_⟩
  have b0 := bulk_pos y0.1
  have b1 := bulk_pos y1.1
  simp only [Meas.blk, Rows.uptoBulk, Rows.uptoBulkAll, List.map_cons, List.map_nil]
  omega
theorem opens_P_Try_l : Opens (List (Int × Int)) Try.prog 146 := opens_list Try.underlying146 (by kernel_rfl) (by kernel_rfl) opens_P_Try

instance : Meas Fr where
  bytes := 96
  fits M x := Meas.fits M x.regs ∧ Meas.fits M x.tries
  blk x := 1 + 1 + 1 + 1 + 1 + 3 + Meas.blk x.regs + Meas.blk x.tries
instance : Inhabited Fr := ⟨⟨default, default, default, default, default, default, default⟩⟩
theorem opens_Fr : Opens Fr Try.prog 148 := by
  refine ⟨by kernel_rfl, by kernel_rfl, by decide, ?_⟩
  intro H enc w spare held fuel cs x h
  obtain ⟨xs, n, -, rfl, hl, hxl, hf⟩ := DataW.trod_struct Try.underlying148 h
  have hl1 : cs.length = 7 + 1 := hl.trans (by kernel_rfl)
  have hx1 : xs.length = 6 + 1 := hxl
  obtain ⟨c0, r0, rfl, hl2⟩ := lenS hl1
  obtain ⟨c1, r1, rfl, hl3⟩ := lenS hl2
  obtain ⟨c2, r2, rfl, hl4⟩ := lenS hl3
  obtain ⟨c3, r3, rfl, hl5⟩ := lenS hl4
  obtain ⟨c4, r4, rfl, hl6⟩ := lenS hl5
  obtain ⟨c5, r5, rfl, hl7⟩ := lenS hl6
  obtain ⟨c6, r6, rfl, hl8⟩ := lenS hl7
  obtain ⟨c7, rfl⟩ := len1 hl8
  obtain ⟨y0, s0, rfl, hx2⟩ := lenS hx1
  obtain ⟨y1, s1, rfl, hx3⟩ := lenS hx2
  obtain ⟨y2, s2, rfl, hx4⟩ := lenS hx3
  obtain ⟨y3, s3, rfl, hx5⟩ := lenS hx4
  obtain ⟨y4, s4, rfl, hx6⟩ := lenS hx5
  obtain ⟨y5, s5, rfl, hx7⟩ := lenS hx6
  obtain ⟨y6, rfl⟩ := len1 hx7
  have g0 : DataW.trod enc Try.prog w 0 spare held n 3 (([c0, c1, c2, c3, c4, c5, c6, c7].drop 0).take (Try.prog.cellsOf 3)) = some y0 := hf 0 _ rfl
  have g1 : DataW.trod enc Try.prog w 0 spare held n 3 (([c0, c1, c2, c3, c4, c5, c6, c7].drop 1).take (Try.prog.cellsOf 3)) = some y1 := hf 1 _ rfl
  have g2 : DataW.trod enc Try.prog w 0 spare held n 3 (([c0, c1, c2, c3, c4, c5, c6, c7].drop 2).take (Try.prog.cellsOf 3)) = some y2 := hf 2 _ rfl
  have g3 : DataW.trod enc Try.prog w 0 spare held n 3 (([c0, c1, c2, c3, c4, c5, c6, c7].drop 3).take (Try.prog.cellsOf 3)) = some y3 := hf 3 _ rfl
  have g4 : DataW.trod enc Try.prog w 0 spare held n 23 (([c0, c1, c2, c3, c4, c5, c6, c7].drop 4).take (Try.prog.cellsOf 23)) = some y4 := hf 4 _ rfl
  have g5 : DataW.trod enc Try.prog w 0 spare held n 35 (([c0, c1, c2, c3, c4, c5, c6, c7].drop 6).take (Try.prog.cellsOf 35)) = some y5 := hf 5 _ rfl
  have g6 : DataW.trod enc Try.prog w 0 spare held n 146 (([c0, c1, c2, c3, c4, c5, c6, c7].drop 7).take (Try.prog.cellsOf 146)) = some y6 := hf 6 _ rfl
  rw [show Try.prog.cellsOf 3 = 1 from opens_Int.2.1] at g0
  obtain ⟨a0, q0, f0, b0⟩ := opens_Int.2.2.2 _ _ _ _ _ _ _ _ g0
  obtain ⟨e0, i0⟩ := q0
  injection e0 with e0; subst e0
  rw [show Try.prog.cellsOf 3 = 1 from opens_Int.2.1] at g1
  obtain ⟨a1, q1, f1, b1⟩ := opens_Int.2.2.2 _ _ _ _ _ _ _ _ g1
  obtain ⟨e1, i1⟩ := q1
  injection e1 with e1; subst e1
  rw [show Try.prog.cellsOf 3 = 1 from opens_Int.2.1] at g2
  obtain ⟨a2, q2, f2, b2⟩ := opens_Int.2.2.2 _ _ _ _ _ _ _ _ g2
  obtain ⟨e2, i2⟩ := q2
  injection e2 with e2; subst e2
  rw [show Try.prog.cellsOf 3 = 1 from opens_Int.2.1] at g3
  obtain ⟨a3, q3, f3, b3⟩ := opens_Int.2.2.2 _ _ _ _ _ _ _ _ g3
  obtain ⟨e3, i3⟩ := q3
  injection e3 with e3; subst e3
  rw [show Try.prog.cellsOf 23 = 2 from opens_P_Val.2.1] at g4
  obtain ⟨a4, q4, f4, b4⟩ := opens_P_Val.2.2.2 _ _ _ _ _ _ _ _ g4
  obtain ⟨e4, i4⟩ := q4
  injection e4 with e4 k4; injection k4 with k4; subst e4 k4
  rw [show Try.prog.cellsOf 35 = 1 from opens_P_Val_l.2.1] at g5
  obtain ⟨a5, q5, f5, b5⟩ := opens_P_Val_l.2.2.2 _ _ _ _ _ _ _ _ g5
  rw [show Try.prog.cellsOf 146 = 1 from opens_P_Try_l.2.1] at g6
  obtain ⟨a6, q6, f6, b6⟩ := opens_P_Try_l.2.2.2 _ _ _ _ _ _ _ _ g6
  refine ⟨⟨a0, a1, a2, a3, a4, a5, a6⟩, ⟨c6, c7, rfl, i0, i1, i2, i3, i4.1, i4.2, q5, q6⟩, fun M hM => ⟨f5 M fun m hm => hM m (by simp [DataW.weights, DataW.weightsEach, Try.underlying148, hm]), f6 M fun m hm => hM m (by simp [DataW.weights, DataW.weightsEach, Try.underlying148, hm])⟩, ?_⟩
  have t_ : Meas.blk a0 ≤ Rows.uptoBulk y0.1 ∧ Meas.blk a1 ≤ Rows.uptoBulk y1.1 ∧ Meas.blk a2 ≤ Rows.uptoBulk y2.1 ∧ Meas.blk a3 ≤ Rows.uptoBulk y3.1 ∧ Meas.blk a4 ≤ Rows.uptoBulk y4.1 ∧ Meas.blk a5 ≤ Rows.uptoBulk y5.1 ∧ Meas.blk a6 ≤ Rows.uptoBulk y6.1 := ⟨b0, b1, b2, b3, b4, b5, b6⟩
  show 1 + 1 + 1 + 1 + 1 + 3 + Meas.blk a5 + Meas.blk a6 ≤ _
  have z0 : 1 ≤ Rows.uptoBulk y0.1 := b0
  have z1 : 1 ≤ Rows.uptoBulk y1.1 := b1
  have z2 : 1 ≤ Rows.uptoBulk y2.1 := b2
  have z3 : 1 ≤ Rows.uptoBulk y3.1 := b3
  have z4 : 3 ≤ Rows.uptoBulk y4.1 := b4
  simp only [Rows.uptoBulk, Rows.uptoBulkAll, List.map_cons, List.map_nil]
  omega
theorem opens_Fr_l : Opens (List Fr) Try.prog 36 := opens_list Try.underlying36 (by kernel_rfl) (by kernel_rfl) opens_Fr

instance : Meas Ce where
  bytes := 64
  fits M x := Meas.fits M x.vals ∧ Meas.fits M x.frames
  blk x := 1 + 1 + 1 + Meas.blk x.vals + Meas.blk x.frames
instance : Inhabited Ce := ⟨⟨default, default, default, default⟩⟩
theorem opens_Ce : Opens Ce Try.prog 38 := by
  refine ⟨by kernel_rfl, by kernel_rfl, by decide, ?_⟩
  intro H enc w spare held fuel cs x h
  obtain ⟨xs, n, -, rfl, hl, hxl, hf⟩ := DataW.trod_struct Try.underlying38 h
  have hl1 : cs.length = 3 + 1 := hl.trans (by kernel_rfl)
  have hx1 : xs.length = 3 + 1 := hxl
  obtain ⟨c0, r0, rfl, hl2⟩ := lenS hl1
  obtain ⟨c1, r1, rfl, hl3⟩ := lenS hl2
  obtain ⟨c2, r2, rfl, hl4⟩ := lenS hl3
  obtain ⟨c3, rfl⟩ := len1 hl4
  obtain ⟨y0, s0, rfl, hx2⟩ := lenS hx1
  obtain ⟨y1, s1, rfl, hx3⟩ := lenS hx2
  obtain ⟨y2, s2, rfl, hx4⟩ := lenS hx3
  obtain ⟨y3, rfl⟩ := len1 hx4
  have g0 : DataW.trod enc Try.prog w 0 spare held n 3 (([c0, c1, c2, c3].drop 0).take (Try.prog.cellsOf 3)) = some y0 := hf 0 _ rfl
  have g1 : DataW.trod enc Try.prog w 0 spare held n 3 (([c0, c1, c2, c3].drop 1).take (Try.prog.cellsOf 3)) = some y1 := hf 1 _ rfl
  have g2 : DataW.trod enc Try.prog w 0 spare held n 35 (([c0, c1, c2, c3].drop 2).take (Try.prog.cellsOf 35)) = some y2 := hf 2 _ rfl
  have g3 : DataW.trod enc Try.prog w 0 spare held n 36 (([c0, c1, c2, c3].drop 3).take (Try.prog.cellsOf 36)) = some y3 := hf 3 _ rfl
  rw [show Try.prog.cellsOf 3 = 1 from opens_Int.2.1] at g0
  obtain ⟨a0, q0, f0, b0⟩ := opens_Int.2.2.2 _ _ _ _ _ _ _ _ g0
  obtain ⟨e0, i0⟩ := q0
  injection e0 with e0; subst e0
  rw [show Try.prog.cellsOf 3 = 1 from opens_Int.2.1] at g1
  obtain ⟨a1, q1, f1, b1⟩ := opens_Int.2.2.2 _ _ _ _ _ _ _ _ g1
  obtain ⟨e1, i1⟩ := q1
  injection e1 with e1; subst e1
  rw [show Try.prog.cellsOf 35 = 1 from opens_P_Val_l.2.1] at g2
  obtain ⟨a2, q2, f2, b2⟩ := opens_P_Val_l.2.2.2 _ _ _ _ _ _ _ _ g2
  rw [show Try.prog.cellsOf 36 = 1 from opens_Fr_l.2.1] at g3
  obtain ⟨a3, q3, f3, b3⟩ := opens_Fr_l.2.2.2 _ _ _ _ _ _ _ _ g3
  refine ⟨⟨a0, a1, a2, a3⟩, ⟨c2, c3, rfl, i0, i1, q2, q3⟩, fun M hM => ⟨f2 M fun m hm => hM m (by simp [DataW.weights, DataW.weightsEach, Try.underlying38, hm]), f3 M fun m hm => hM m (by simp [DataW.weights, DataW.weightsEach, Try.underlying38, hm])⟩, ?_⟩
  have t_ : Meas.blk a0 ≤ Rows.uptoBulk y0.1 ∧ Meas.blk a1 ≤ Rows.uptoBulk y1.1 ∧ Meas.blk a2 ≤ Rows.uptoBulk y2.1 ∧ Meas.blk a3 ≤ Rows.uptoBulk y3.1 := ⟨b0, b1, b2, b3⟩
  show 1 + 1 + 1 + Meas.blk a2 + Meas.blk a3 ≤ _
  have z0 : 1 ≤ Rows.uptoBulk y0.1 := b0
  have z1 : 1 ≤ Rows.uptoBulk y1.1 := b1
  simp only [Rows.uptoBulk, Rows.uptoBulkAll, List.map_cons, List.map_nil]
  omega
theorem opens_Ce_l : Opens (List Ce) Try.prog 66 := opens_list Try.underlying66 (by kernel_rfl) (by kernel_rfl) opens_Ce

theorem opens_LInt : Opens (List Int) Try.prog 47 := opens_list Try.underlying47 (by kernel_rfl) (by kernel_rfl) opens_Int

theorem opens_LLInt : Opens (List (List Int)) Try.prog 46 := opens_list Try.underlying46 (by kernel_rfl) (by kernel_rfl) opens_LInt

instance : Meas Gr where
  bytes := 48
  fits M x := Meas.fits M x.has ∧ Meas.fits M x.roots
  blk x := 1 + Meas.blk x.has + Meas.blk x.roots
instance : Inhabited Gr := ⟨⟨default, default⟩⟩
theorem opens_Gr : Opens Gr Try.prog 49 := by
  refine ⟨by kernel_rfl, by kernel_rfl, by decide, ?_⟩
  intro H enc w spare held fuel cs x h
  obtain ⟨xs, n, -, rfl, hl, hxl, hf⟩ := DataW.trod_struct Try.underlying49 h
  have hl1 : cs.length = 1 + 1 := hl.trans (by kernel_rfl)
  have hx1 : xs.length = 1 + 1 := hxl
  obtain ⟨c0, r0, rfl, hl2⟩ := lenS hl1
  obtain ⟨c1, rfl⟩ := len1 hl2
  obtain ⟨y0, s0, rfl, hx2⟩ := lenS hx1
  obtain ⟨y1, rfl⟩ := len1 hx2
  have g0 : DataW.trod enc Try.prog w 0 spare held n 46 (([c0, c1].drop 0).take (Try.prog.cellsOf 46)) = some y0 := hf 0 _ rfl
  have g1 : DataW.trod enc Try.prog w 0 spare held n 47 (([c0, c1].drop 1).take (Try.prog.cellsOf 47)) = some y1 := hf 1 _ rfl
  rw [show Try.prog.cellsOf 46 = 1 from opens_LLInt.2.1] at g0
  obtain ⟨a0, q0, f0, b0⟩ := opens_LLInt.2.2.2 _ _ _ _ _ _ _ _ g0
  rw [show Try.prog.cellsOf 47 = 1 from opens_LInt.2.1] at g1
  obtain ⟨a1, q1, f1, b1⟩ := opens_LInt.2.2.2 _ _ _ _ _ _ _ _ g1
  refine ⟨⟨a0, a1⟩, ⟨c0, c1, rfl, q0, q1⟩, fun M hM => ⟨f0 M fun m hm => hM m (by simp [DataW.weights, DataW.weightsEach, Try.underlying49, hm]), f1 M fun m hm => hM m (by simp [DataW.weights, DataW.weightsEach, Try.underlying49, hm])⟩, ?_⟩
  have t_ : Meas.blk a0 ≤ Rows.uptoBulk y0.1 ∧ Meas.blk a1 ≤ Rows.uptoBulk y1.1 := ⟨b0, b1⟩
  show 1 + Meas.blk a0 + Meas.blk a1 ≤ _
  simp only [Rows.uptoBulk, Rows.uptoBulkAll, List.map_cons, List.map_nil]
  omega

theorem opens_U64 : Opens U64 Try.prog 24 := opens_u64 Try.underlying24 (by kernel_rfl) (by kernel_rfl)
instance : Inhabited U64 := ⟨⟨0⟩⟩
theorem opens_LU64 : Opens (List U64) Try.prog 39 := opens_list Try.underlying39 (by kernel_rfl) (by kernel_rfl) opens_U64

instance : Meas Hp where
  bytes := 48
  fits M x := Meas.fits M x.words ∧ Meas.fits M x.roots
  blk x := 1 + Meas.blk x.words + Meas.blk x.roots
instance : Inhabited Hp := ⟨⟨default, default⟩⟩
theorem opens_Hp : Opens Hp Try.prog 70 := by
  refine ⟨by kernel_rfl, by kernel_rfl, by decide, ?_⟩
  intro H enc w spare held fuel cs x h
  obtain ⟨xs, n, -, rfl, hl, hxl, hf⟩ := DataW.trod_struct Try.underlying70 h
  have hl1 : cs.length = 1 + 1 := hl.trans (by kernel_rfl)
  have hx1 : xs.length = 1 + 1 := hxl
  obtain ⟨c0, r0, rfl, hl2⟩ := lenS hl1
  obtain ⟨c1, rfl⟩ := len1 hl2
  obtain ⟨y0, s0, rfl, hx2⟩ := lenS hx1
  obtain ⟨y1, rfl⟩ := len1 hx2
  have g0 : DataW.trod enc Try.prog w 0 spare held n 39 (([c0, c1].drop 0).take (Try.prog.cellsOf 39)) = some y0 := hf 0 _ rfl
  have g1 : DataW.trod enc Try.prog w 0 spare held n 39 (([c0, c1].drop 1).take (Try.prog.cellsOf 39)) = some y1 := hf 1 _ rfl
  rw [show Try.prog.cellsOf 39 = 1 from opens_LU64.2.1] at g0
  obtain ⟨a0, q0, f0, b0⟩ := opens_LU64.2.2.2 _ _ _ _ _ _ _ _ g0
  rw [show Try.prog.cellsOf 39 = 1 from opens_LU64.2.1] at g1
  obtain ⟨a1, q1, f1, b1⟩ := opens_LU64.2.2.2 _ _ _ _ _ _ _ _ g1
  refine ⟨⟨a0, a1⟩, ⟨c0, c1, rfl, q0, q1⟩, fun M hM => ⟨f0 M fun m hm => hM m (by simp [DataW.weights, DataW.weightsEach, Try.underlying70, hm]), f1 M fun m hm => hM m (by simp [DataW.weights, DataW.weightsEach, Try.underlying70, hm])⟩, ?_⟩
  have t_ : Meas.blk a0 ≤ Rows.uptoBulk y0.1 ∧ Meas.blk a1 ≤ Rows.uptoBulk y1.1 := ⟨b0, b1⟩
  show 1 + Meas.blk a0 + Meas.blk a1 ≤ _
  simp only [Rows.uptoBulk, Rows.uptoBulkAll, List.map_cons, List.map_nil]
  omega

instance : Meas De where
  bytes := 32
  fits _ _ := True
  blk _ := 1 + 1 + 1 + 1 + 1
instance : Inhabited De := ⟨⟨default, default, default, default⟩⟩
theorem opens_De : Opens De Try.prog 97 := by
  refine ⟨by kernel_rfl, by kernel_rfl, by decide, ?_⟩
  intro H enc w spare held fuel cs x h
  obtain ⟨xs, n, -, rfl, hl, hxl, hf⟩ := DataW.trod_struct Try.underlying97 h
  have hl1 : cs.length = 3 + 1 := hl.trans (by kernel_rfl)
  have hx1 : xs.length = 3 + 1 := hxl
  obtain ⟨c0, r0, rfl, hl2⟩ := lenS hl1
  obtain ⟨c1, r1, rfl, hl3⟩ := lenS hl2
  obtain ⟨c2, r2, rfl, hl4⟩ := lenS hl3
  obtain ⟨c3, rfl⟩ := len1 hl4
  obtain ⟨y0, s0, rfl, hx2⟩ := lenS hx1
  obtain ⟨y1, s1, rfl, hx3⟩ := lenS hx2
  obtain ⟨y2, s2, rfl, hx4⟩ := lenS hx3
  obtain ⟨y3, rfl⟩ := len1 hx4
  have g0 : DataW.trod enc Try.prog w 0 spare held n 3 (([c0, c1, c2, c3].drop 0).take (Try.prog.cellsOf 3)) = some y0 := hf 0 _ rfl
  have g1 : DataW.trod enc Try.prog w 0 spare held n 3 (([c0, c1, c2, c3].drop 1).take (Try.prog.cellsOf 3)) = some y1 := hf 1 _ rfl
  have g2 : DataW.trod enc Try.prog w 0 spare held n 3 (([c0, c1, c2, c3].drop 2).take (Try.prog.cellsOf 3)) = some y2 := hf 2 _ rfl
  have g3 : DataW.trod enc Try.prog w 0 spare held n 3 (([c0, c1, c2, c3].drop 3).take (Try.prog.cellsOf 3)) = some y3 := hf 3 _ rfl
  rw [show Try.prog.cellsOf 3 = 1 from opens_Int.2.1] at g0
  obtain ⟨a0, q0, f0, b0⟩ := opens_Int.2.2.2 _ _ _ _ _ _ _ _ g0
  obtain ⟨e0, i0⟩ := q0
  injection e0 with e0; subst e0
  rw [show Try.prog.cellsOf 3 = 1 from opens_Int.2.1] at g1
  obtain ⟨a1, q1, f1, b1⟩ := opens_Int.2.2.2 _ _ _ _ _ _ _ _ g1
  obtain ⟨e1, i1⟩ := q1
  injection e1 with e1; subst e1
  rw [show Try.prog.cellsOf 3 = 1 from opens_Int.2.1] at g2
  obtain ⟨a2, q2, f2, b2⟩ := opens_Int.2.2.2 _ _ _ _ _ _ _ _ g2
  obtain ⟨e2, i2⟩ := q2
  injection e2 with e2; subst e2
  rw [show Try.prog.cellsOf 3 = 1 from opens_Int.2.1] at g3
  obtain ⟨a3, q3, f3, b3⟩ := opens_Int.2.2.2 _ _ _ _ _ _ _ _ g3
  obtain ⟨e3, i3⟩ := q3
  injection e3 with e3; subst e3
  refine ⟨⟨a0, a1, a2, a3⟩, ⟨rfl, i0, i1, i2, i3⟩, fun M hM => trivial, ?_⟩
  have t_ : Meas.blk a0 ≤ Rows.uptoBulk y0.1 ∧ Meas.blk a1 ≤ Rows.uptoBulk y1.1 ∧ Meas.blk a2 ≤ Rows.uptoBulk y2.1 ∧ Meas.blk a3 ≤ Rows.uptoBulk y3.1 := ⟨b0, b1, b2, b3⟩
  show 1 + 1 + 1 + 1 + 1 ≤ _
  have z0 : 1 ≤ Rows.uptoBulk y0.1 := b0
  have z1 : 1 ≤ Rows.uptoBulk y1.1 := b1
  have z2 : 1 ≤ Rows.uptoBulk y2.1 := b2
  have z3 : 1 ≤ Rows.uptoBulk y3.1 := b3
  simp only [Rows.uptoBulk, Rows.uptoBulkAll, List.map_cons, List.map_nil]
  omega
theorem opens_De_l : Opens (List De) Try.prog 88 := opens_list Try.underlying88 (by kernel_rfl) (by kernel_rfl) opens_De

theorem opens_P_RPair : Opens (Int × Int) Try.prog 63 := by
  refine ⟨by kernel_rfl, by kernel_rfl, by decide, ?_⟩
  intro H enc w spare held fuel cs x h
  obtain ⟨xs, n, -, rfl, hl, hxl, hf⟩ := DataW.trod_struct Try.underlying63 h
  have hl' : cs.length = 1 + 1 := hl.trans (by kernel_rfl)
  have hxl' : xs.length = 1 + 1 := hxl
  obtain ⟨c0, r, rfl, hl2⟩ := lenS hl'
  obtain ⟨c1, rfl⟩ := len1 hl2
  obtain ⟨y0, s, rfl, hxl2⟩ := lenS hxl'
  obtain ⟨y1, rfl⟩ := len1 hxl2
  have g0 : DataW.trod enc Try.prog w 0 spare held n 3 (([c0, c1].drop 0).take (Try.prog.cellsOf 3)) = some y0 := hf 0 _ rfl
  have g1 : DataW.trod enc Try.prog w 0 spare held n 3 (([c0, c1].drop 1).take (Try.prog.cellsOf 3)) = some y1 := hf 1 _ rfl
  rw [show Try.prog.cellsOf 3 = 1 from opens_Int.2.1] at g0 g1
  obtain ⟨a0, ⟨e0, i0⟩, -, -⟩ := opens_Int.2.2.2 _ _ _ _ _ _ _ _ g0
  obtain ⟨a1, ⟨e1, i1⟩, -, -⟩ := opens_Int.2.2.2 _ _ _ _ _ _ _ _ g1
  injection e0 with e0; subst e0
  injection e1 with e1; subst e1
  refine ⟨(a0, a1), ⟨rfl, i0, i1⟩, fun _ _ => trivial, ?_⟩
  have b0 := bulk_pos y0.1
  have b1 := bulk_pos y1.1
  simp only [Meas.blk, Rows.uptoBulk, Rows.uptoBulkAll, List.map_cons, List.map_nil]
  omega
theorem opens_P_RPair_l : Opens (List (Int × Int)) Try.prog 50 := opens_list Try.underlying50 (by kernel_rfl) (by kernel_rfl) opens_P_RPair

end Go.Proofs.Ytpkccpegdpodoaa

/-
  From a law's walk to its row: the arguments read as they did; the law's post.
-/
namespace Go.Proofs.Ytpkccpegdpodoaa
open Go.RowKit Go.ChangeShapes Go.WideShapes Go.Deep

theorem prog_own : ownKnob Try.prog.godebug = none := by kernel_rfl
theorem prog_laidOut : laidOutB Try.prog = true := by kernel_rfl

theorem trodAll_below {H : Type} {enc : TypeId × Value → H} {P : Program} {W W' : World} (hl : laidOutB P = true) (hb : Below W.heap.size W W') :
    ∀ {ts : List TypeId} {vs : List Value} {ds : List (DataW H)} {ps : List MemPlace}, ts.all (fun t => P.readableRec t && decide (t < P.types.size)) = true →
      DataW.TrodAll enc P W 0 (fun _ => true) true ts vs ds ps → (∀ x ∈ ps, x.block < W.heap.size) → DataW.TrodAll enc P W' 0 (fun b => decide (b < W.heap.size)) true ts vs ds ps
  | [], [], [], ps, _, h, _ => h
  | t :: ts, v :: vs, d :: ds, ps, hr, h, hlt => by
    obtain ⟨p, q, h1, h2, rfl⟩ := h
    rw [List.all_cons, Bool.and_eq_true, Bool.and_eq_true, decide_eq_true_eq] at hr
    exact ⟨p, q, Below.trod hl hr.1.1 hr.1.2 h1 hb (fun x hx => hlt x (List.mem_append_left _ hx)), trodAll_below hl hb hr.2 h2 (fun x hx => hlt x (List.mem_append_right _ hx)), rfl⟩
  | [], _ :: _, _, _, _, h, _ => by simp [DataW.TrodAll] at h
  | [], [], _ :: _, _, _, h, _ => by simp [DataW.TrodAll] at h
  | _ :: _, [], _, _, _, h, _ => by simp [DataW.TrodAll] at h
  | _ :: _, _ :: _, [], _, _, h, _ => by simp [DataW.TrodAll] at h

/-- a law's post: it returned true, and nothing that was there has turned -/
theorem post_law {H : Type} {enc : TypeId × Value → H} {P : Program} {f : Func} {s : ChangeSpec} {W W' : World} {args : Array Value} {ds : List (DataW H)} {before : List MemPlace} {bt : TypeId}
    (hW : DataW.Whole enc P f.params.toList s.vars false W args.toList ds [] before) (hvars : s.vars = []) (hfn : s.fn H (ds ++ []) = { results := [.lit (.bool true)], args := ds }) (hres : f.resultTypes = #[bt])
    (hbt : P.underlying bt = some .bool) (hl : laidOutB P = true) (hr : f.params.toList.all (fun t => P.readableRec t && decide (t < P.types.size)) = true) (hb : Below W.heap.size W W') :
    s.post enc P f false true false false W args (.bool true) W' := by
  have hlt : ∀ x ∈ before, x.block < W.heap.size := fun x hx => hW.lt x hx
  have hW' := hW
  obtain ⟨p, q, hA, hV, rfl, -, -⟩ := hW
  rw [hvars] at hV
  obtain ⟨-, rfl⟩ := trodVars_none hV
  refine ⟨ds, [], _, [], p, [], hW', ?_, ?_, ?_, hb.frame _, fun h => by cases h⟩
  · rw [hfn, hres]
    exact trodAll_mk1 (shut_bool hbt true)
  · rw [hfn]
    exact trodAll_below hl hb hr hA (fun x hx => hlt x (by simpa using hx))
  · rw [hfn, hvars]
    rfl

/-- every weight of an argument's reading is within the reach -/
theorem weigh {H : Type} {P : Program} {ts : List TypeId} {ds : List (DataW H)} (h : (DataW.weightsEach P ts ds).all (· ≤ reachBytes) = true) {j : Nat} {t : TypeId} {d : DataW H} (ht : ts[j]? = some t) (hd : ds[j]? = some d) :
    ∀ n ∈ d.weights P t, n ≤ reachBytes := fun n hn => by
  have := List.all_eq_true.1 h n (DataW.weights_mem_each ht hd n hn)
  simpa using this

theorem agg_of {P : Program} {w : World} {r : Reach} {b : Nat} {t : TypeId} {fs : Array Field} {v : Value} (hs : P.underlying t = some (.struct fs)) (hv : Value.okWide P w r b t v) {l : List Value} (h : v.cells.toList = l) : v = .agg l.toArray := by
  obtain ⟨cs, rfl, -⟩ := okWide_struct hs hv
  subst h
  simp [Value.cells]
theorem slice_of {P : Program} {w : World} {r : Reach} {b : Nat} {t e : TypeId} {v u : Value} (hs : P.underlying t = some (.slice e)) (hv : Value.okWide P w r b t v) (h : v.cells.toList = [u]) : v = u := by
  obtain ⟨a, n, c, rfl⟩ := okWide_slice hs hv
  simpa [Value.cells] using h

end Go.Proofs.Ytpkccpegdpodoaa

namespace Go.Proofs.Ytpkccpegdpodoaa
open Go.RowKit Go.ChangeShapes Go.WideShapes Go.Deep

set_option maxRecDepth 100000 in
theorem storeTells_lifted (os : Os) (started : os.Started) (H : Type) (enc : TypeId × Value → H) :
    ReturnsInHanded {} Try.checked os 10 .any (Rows.storeTellsSpec.pre6 enc Try.prog Try.f10 Rows.storeTellsRow.domain false) (Rows.storeTellsSpec.post enc Try.prog Try.f10 false true false false) := by
  refine returnsInHanded_of_change_sized (C := Try.checked) prog_own started (by kernel_rfl) Try.func10
    (ChangeSpec.witness6 (enc := enc) (C := Try.checked) false ⟨#[], #[.slice none 0 0, .slice none 0 0], []⟩ 8 (by kernel_rfl) (by kernel_rfl) (by kernel_rfl) (by kernel_rfl)) ?_
  intro W base args ds gs before hval0 hW _ hsz0 _
  have hsz : (DataW.weightsEach Try.prog (Try.f10.params.toList ++ Rows.storeTellsSpec.plain.varTypes Try.prog) (ds ++ gs)).all (· ≤ reachBytes) = true := hsz0
  clear hsz0
  have hval : ∀ (j : Nat) t v, Try.f10.params[j]? = some t → args[j]? = some v → Value.okWide Try.prog W .any base t v := hval0
  have hW' := hW
  obtain ⟨p, q, hA0, hV, rfl, -, -⟩ := hW
  have hA : DataW.TrodAll enc Try.prog W 0 (fun _ => true) true Try.f10.params.toList args.toList ds p := hA0
  rw [Try.params10] at hA hval hsz
  obtain ⟨v0, vs0, d0, ds0, p0, q0, hargs, rfl, rfl, h0, r0⟩ := trodAll_cons hA
  obtain ⟨v1, vs1, d1, ds1, p1, q1, rfl, rfl, rfl, h1, r1⟩ := trodAll_cons r0
  obtain ⟨rfl, rfl, rfl⟩ := trodAll_nil r1
  obtain rfl : args = #[v0, v1] := by cases args; simp_all
  obtain ⟨rfl, rfl⟩ := trodVars_none hV
  obtain ⟨u0, k0⟩ := h0
  obtain ⟨u1, k1⟩ := h1
  obtain ⟨x0, ⟨A0, c0, l0, hc0, hm0, hn0, t0⟩, f0, -⟩ := opens_De_l.2.2.2 _ _ _ _ _ _ _ _ k0
  have g0 := f0 reachBytes (weigh hsz (j := 0) rfl rfl)
  have b0 : x0.length * Meas.bytes _ ≤ reachBytes := g0.1
  unfold reachBytes at b0; unfold maxLen at hm0
  have q0 := slice_of Try.underlying88 (hval 0 _ v0 rfl rfl) l0
  obtain ⟨x1, ⟨A1, c1, l1, hc1, hm1, hn1, t1⟩, f1, -⟩ := opens_P_Val_l.2.2.2 _ _ _ _ _ _ _ _ k1
  have g1 := f1 reachBytes (weigh hsz (j := 1) rfl rfl)
  have b1 : x1.length * Meas.bytes _ ≤ reachBytes := g1.1
  unfold reachBytes at b1; unfold maxLen at hm1
  have q1 := slice_of Try.underlying35 (hval 1 _ v1 rfl rfl) l1
  subst q0 q1
  refine (Sto.storeTells_any A0 A1 c0 c1 _ x0 x1 W t0 t1 (Nat.le_refl _) (by have h8 : Meas.bytes De = 32 := rfl; rw [h8] at b0; omega) hc0 (by have h8 : Meas.bytes (Int × Int) = 16 := rfl; rw [h8] at b1; omega)).mono fun e W2 ⟨he, hb⟩ => ?_
  subst he
  exact ⟨_, rfl, post_law hW' rfl rfl rfl Try.underlying4 prog_laidOut (by kernel_rfl) hb⟩

theorem storeTells_holds : Rows.StoreTellsSaid :=
  OpenClaim.holds_of_wide 10 Try.f10 rfl rfl rfl rfl rfl rfl rfl ⟨rfl, rfl, rfl, rfl, rfl⟩ rfl rfl rfl rfl rfl (by kernel_rfl) Try.func10 (by kernel_rfl)
    (of_decide_eq_true (by kernel_rfl)) (by unfold Func.isWrapper; first | (rw [if_pos (by decide +kernel)]; kernel_rfl) | (rw [if_neg (by decide +kernel)]; exact ⟨rfl, rfl⟩))
    (fun os started H enc _ => storeTells_lifted os started H enc)
#print axioms storeTells_holds
end Go.Proofs.Ytpkccpegdpodoaa
