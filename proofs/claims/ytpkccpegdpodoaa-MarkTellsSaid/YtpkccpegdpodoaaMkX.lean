/- R.Model: Marks, of any deed. Are two graphs the same? -/
import Derived.Test.YtpkccpegdpodoaaMkW
namespace Go.Proofs.Ytpkccpegdpodoaa
open Go.RowKit

attribute [local go_sem ↓] Go.wp_at_zero Go.wp_at_succ

theorem marks_any (w : World) (base p : Nat) (F : Nat → Prop) (nu kind dd a b n : Int) (mk : Bool) (s : List It) (h : Mdl w base F p nu kind mk s) (hi : MInv kind mk s) (hk : kind = 1 ∨ kind = 2) (hF : ∀ g, F g → g < w.heap.size) (hd : I64 a ∧ I64 b ∧ I64 n) :
    Calls Try.prog 53 #[.pointer (some ⟨p, 0, none⟩), .agg #[.int .i64 dd, .int .i64 a, .int .i64 b, .int .i64 n]] w (MdPost base p F nu kind w (marksI kind mk s ⟨dd, a, b, n⟩)) := by
  have H := MdPre.mk_ (dd := dd) h hi hk hF hd
  by_cases h1 : dd = 1
  · subst h1; exact marks1 w _ base p F nu kind a b n mk s H
  by_cases h2 : dd = 2
  · subst h2; exact marks2 w _ base p F nu kind a b n mk s H
  by_cases h4 : dd = 4
  · subst h4; exact marks4 w _ base p F nu kind a b n mk s H
  by_cases h3 : dd = 3
  · subst h3; exact marks3 w _ base p F nu kind a b n mk s H
  by_cases h6 : dd = 6
  · subst h6; exact marks6 w _ base p F nu kind a b n mk s H
  by_cases h5 : dd = 5
  · subst h5; exact marks5 w _ base p F nu kind a b n mk s H
  by_cases h7 : dd = 7
  · subst h7; exact marks7 w _ base p F nu kind a b n mk s H
  exact marksX w _ base p F nu kind dd a b n mk s H h1 h2 h4 h3 h6 h5 h7

set_option maxHeartbeats 1600000 in
set_option maxRecDepth 100000 in
theorem same_any (w : World) (HA HB RA RB : Option Addr) (hc hd rc rd n m : Nat) (has : List (List Int)) (roots : List Int) (ha : At w w.heap.size HA has) (hb : At w w.heap.size HB has) (ra : At w w.heap.size RA roots) (rb : At w w.heap.size RB roots)
    (hn : has.length = n) (hm : roots.length = m) (hn100 : n ≤ 100) (hm100 : m ≤ 1000) (hx : ∀ l ∈ has, l.length ≤ 10) :
    Calls Try.prog 56 #[.agg #[.slice HA n hc, .slice RA m rc], .agg #[.slice HB n hd, .slice RB m rd]] w fun e w' => e = .returned (.bool true) ∧ Below w.heap.size w w' := by
  have H := Lib.hid (And.intro ha (And.intro hb (And.intro ra (And.intro rb (And.intro hn (And.intro hm hx)))))); clear ha hb ra rb hn hm hx
  go_enter Try.func56, Try.ntmps56
  go_wp2_with fail
  refine calls_world (fun W => Blk W w.heap.size 49 #[.slice HA n hc, .slice RA m rc] ∧ Blk W (w.heap.size + 1) 49 #[.slice HB n hd, .slice RB m rd] ∧ Below w.heap.size w W) ⟨(Blk.new w _ _).alloc _, Blk.at_ _ _ _ (by simp), ((Below.refl _ _).alloc (Nat.le_refl _) _).alloc (by simp) _⟩ ?_
  rintro W ⟨hA, hB, hbW⟩
  refine (eqInt_n RA RB rc rd w.heap.size m m roots roots W H.out.2.2.2.2.2.1 H.out.2.2.2.2.2.1 (H.out.2.2.1.below hbW) (H.out.2.2.2.1.below hbW) (by omega)).mono ?_
  rintro e w1 ⟨rfl, rfl⟩
  rw [decide_eq_true rfl]
  have a0 := hA.cell 0 (v := .slice HA n hc) rfl
  have b0 := hB.cell 0 (v := .slice HB n hd) rfl
  have HW := Lib.hid (And.intro hA (And.intro hB hbW)); clear hA hB hbW
  go_wp2_with fail
  clear a0 b0
  go_loopg [24] n (fun gk iv wr => ∃ k : Nat, k ≤ n ∧ gk = n - k ∧ iv = .int .i64 k ∧ Hid (Blk wr w.heap.size 49 #[.slice HA n hc, .slice RA m rc] ∧ Blk wr (w.heap.size + 1) 49 #[.slice HB n hd, .slice RB m rd]) ∧ Below w.heap.size w wr)
  case atStart => exact ⟨0, Nat.zero_le _, rfl, rfl, ⟨HW.out.1, HW.out.2.1⟩, HW.out.2.2⟩
  case round =>
    obtain ⟨k, hk, rfl, rfl, hkeep, hbl⟩ := hrel
    by_cases hlt : k < n
    · obtain ⟨b1, o1, x, A1, c1, rfl, hb1, hx1, q1, at1, l1, l2⟩ := (H.out.1.below hbl).slice_ (k := k) (by have := H.out.2.2.2.2.1; omega)
      obtain ⟨b2, o2, x', A2, c2, rfl, hb2, hx2, q2, at2, l3, l4⟩ := (H.out.2.1.below hbl).slice_ (k := k) (by have := H.out.2.2.2.2.1; omega)
      rw [hx1] at hx2; injection hx2 with hx2; subst hx2
      have hx10 := H.out.2.2.2.2.2.2 x (List.mem_of_getElem? hx1)
      have a0 := hkeep.out.1.cell 0 (v := .slice (some ⟨b1, o1, none⟩) n hc) rfl
      have b0 := hkeep.out.2.cell 0 (v := .slice (some ⟨b2, o2, none⟩) n hd) rfl
      have k0 : (0 : Int) ≤ (k : Int) := by omega
      have k1 : (k : Int) < (n : Int) := by omega
      obtain ⟨xn, hxn⟩ : ∃ n, x.length = n := ⟨_, rfl⟩
      rw [hxn] at q1 q2 hx10
      have HX := Lib.hid (And.intro at1 (And.intro at2 (And.intro hxn hkeep.out))); clear at1 at2 hxn hkeep hx1 l1 l2 l3 l4
      go_wp2_with fail
      refine wp_region_held_drew (S := (fun w' => w'.cell? ⟨w.heap.size, 0, none⟩ = some (.slice (some ⟨b1, o1, none⟩) n hc) ∧ w'.cell? ⟨w.heap.size + 1, 0, none⟩ = some (.slice (some ⟨b2, o2, none⟩) n hd) ∧ w'.cell? ⟨b1, o1 + k, none⟩ = some (.slice A1 xn c1) ∧ w'.cell? ⟨b2, o2 + k, none⟩ = some (.slice A2 xn c2))) (by kernel_rfl) ?_ (fun hHeld0 => ?_)
      · first | trivial | ((try dsimp only); (exact ⟨a0, b0, q1, q2⟩))
      refine held_take (v := ?_) 0 rfl (by kernel_rfl) (by kernel_rfl) (by kernel_rfl) (fun _ _ _ h => h) (by rfl) ?_ (by assumption) ?_
      rotate_left
      · (intro w hSw; (try dsimp only at hSw); go_simp; try with_reducible rfl)
      try simp only [Act.put, List.setIfInBounds_toArray, List.set_cons_zero, List.set_cons_succ]
      refine held_take (v := ?_) 1 rfl (by kernel_rfl) (by kernel_rfl) (by kernel_rfl) (fun _ _ _ h => h) (by rfl) ?_ (by assumption) ?_
      rotate_left
      · (intro w hSw; (try dsimp only at hSw); go_simp; try with_reducible rfl)
      try simp only [Act.put, List.setIfInBounds_toArray, List.set_cons_zero, List.set_cons_succ]
      refine held_take (v := ?_) 2 rfl (by kernel_rfl) (by kernel_rfl) (by kernel_rfl) (fun _ _ _ h => h) (by rfl) ?_ (by assumption) ?_
      rotate_left
      · (intro w hSw; (try dsimp only at hSw); go_simp; try with_reducible rfl)
      try simp only [Act.put, List.setIfInBounds_toArray, List.set_cons_zero, List.set_cons_succ]
      refine held_take (v := ?_) 3 rfl (by kernel_rfl) (by kernel_rfl) (by kernel_rfl) (fun _ _ _ h => h) (by rfl) ?_ (by assumption) ?_
      rotate_left
      · (intro w hSw; (try dsimp only at hSw); go_simp; try with_reducible rfl)
      try simp only [Act.put, List.setIfInBounds_toArray, List.set_cons_zero, List.set_cons_succ]
      refine held_take (v := ?_) 4 rfl (by kernel_rfl) (by kernel_rfl) (by kernel_rfl) (fun _ _ _ h => h) (by rfl) ?_ (by assumption) ?_
      rotate_left
      · (intro w hSw; (try dsimp only at hSw); go_simp; try with_reducible rfl)
      try simp only [Act.put, List.setIfInBounds_toArray, List.set_cons_zero, List.set_cons_succ]
      refine held_take (v := ?_) 5 rfl (by kernel_rfl) (by kernel_rfl) (by kernel_rfl) (fun _ _ _ h => h) (by rfl) ?_ (by assumption) ?_
      rotate_left
      · (intro w hSw; (try dsimp only at hSw); go_simp; try with_reducible rfl)
      try simp only [Act.put, List.setIfInBounds_toArray, List.set_cons_zero, List.set_cons_succ]
      refine held_take (v := ?_) 6 rfl (by kernel_rfl) (by kernel_rfl) (by kernel_rfl) (fun _ _ _ h => h) (by rfl) ?_ (by assumption) ?_
      rotate_left
      · (intro w hSw; (try dsimp only at hSw); go_simp; try with_reducible rfl)
      try simp only [Act.put, List.setIfInBounds_toArray, List.set_cons_zero, List.set_cons_succ]
      refine held_take (v := ?_) 7 rfl (by kernel_rfl) (by kernel_rfl) (by kernel_rfl) (fun _ _ _ h => h) (by rfl) ?_ (by assumption) ?_
      rotate_left
      · (intro w hSw; (try dsimp only at hSw); go_simp; try with_reducible rfl)
      try simp only [Act.put, List.setIfInBounds_toArray, List.set_cons_zero, List.set_cons_succ]
      refine held_take (v := ?_) 8 rfl (by kernel_rfl) (by kernel_rfl) (by kernel_rfl) (fun _ _ _ h => h) (by rfl) ?_ (by assumption) ?_
      rotate_left
      · (intro w hSw; (try dsimp only at hSw); go_simp; try with_reducible rfl)
      try simp only [Act.put, List.setIfInBounds_toArray, List.set_cons_zero, List.set_cons_succ]
      refine held_take (v := ?_) 9 rfl (by kernel_rfl) (by kernel_rfl) (by kernel_rfl) (fun _ _ _ h => h) (by rfl) ?_ (by assumption) ?_
      rotate_left
      · (intro w hSw; (try dsimp only at hSw); go_simp; try with_reducible rfl)
      try simp only [Act.put, List.setIfInBounds_toArray, List.set_cons_zero, List.set_cons_succ]
      refine held_call 10 (by kernel_rfl) rfl (fun K hK => ?_)
      go_simp
      go_at_call 31; refine (eqInt_n A1 A2 c1 c2 w.heap.size xn xn x x _ HX.out.2.2.1 HX.out.2.2.1 HX.out.1.drew HX.out.2.1.drew (by omega)).mono ?_; rintro e w5 ⟨rfl, rfl⟩; rw [decide_eq_true rfl]
      try (go_wp2_with fail)
      refine hK.out _ _ ?_ (fun hHeld1 => ?_)
      · first | trivial | ((try dsimp only); (exact ⟨a0, b0, q1, q2⟩))
      clear hK K hHeld0
      try simp only [Act.put, List.setIfInBounds_toArray, List.set_cons_zero, List.set_cons_succ]
      refine held_take (v := ?_) 11 rfl (by kernel_rfl) (by kernel_rfl) (by kernel_rfl) (fun _ _ _ h => h) (by rfl) ?_ (by assumption) ?_
      rotate_left
      · (intro w hSw; (try dsimp only at hSw); go_simp; try with_reducible rfl)
      try simp only [Act.put, List.setIfInBounds_toArray, List.set_cons_zero, List.set_cons_succ]
      refine wpAnyH_done (by kernel_rfl) ?_ _
      go_wp2_with fail
      go_roundg (n - (k + 1))
      case measure => omega
      case rel => exact ⟨k + 1, by omega, rfl, by go_num, ⟨HX.out.2.2.2.1.drew, HX.out.2.2.2.2.drew⟩, below_drewN hbl 1⟩
    · obtain rfl : n = k := by omega
      have HF := Lib.hid hkeep.out; clear hkeep
      go_wp2_with fail
      go_ret
      exact ⟨rfl, hbl⟩

end Go.Proofs.Ytpkccpegdpodoaa
