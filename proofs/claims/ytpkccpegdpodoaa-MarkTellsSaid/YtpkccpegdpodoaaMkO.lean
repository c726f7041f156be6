/- mark: Do. -/
import Derived.Test.YtpkccpegdpodoaaMkN
namespace Go.Proofs.Ytpkccpegdpodoaa
open Go.RowKit

attribute [local go_sem ↓] Go.wp_at_zero Go.wp_at_succ

/-- what a deed leaves -/
def DoPost (base p : Nat) (F : Nat → Prop) (kind : Int) (w : World) (r : Int × Int × Bool × List It) (e : Ending) (w' : World) : Prop :=
  e = .returned (.tuple #[.int .i64 r.1, .int .i64 r.2.1]) ∧ Mkr w' base (Up F w w') p kind r.2.2.1 r.2.2.2 ∧ Touch F w w'
theorem DoPost.of {base p : Nat} {F : Nat → Prop} {kind : Int} {w w' : World} {r : Int × Int × Bool × List It} {e : Ending} {m n : Int} {mk' : Bool} {s' : List It} (hr : r = (m, n, mk', s')) (he : e = .returned (.tuple #[.int .i64 m, .int .i64 n])) (hm : Mkr w' base (Up F w w') p kind mk' s') (hT : Touch F w w') : DoPost base p F kind w r e w' := by
  subst hr; exact ⟨he, hm, hT⟩
theorem DoPost.same {base p : Nat} {F : Nat → Prop} {kind : Int} {w w' : World} {r : Int × Int × Bool × List It} {e : Ending} {m n : Int} {mk' : Bool} {s' : List It} (hr : r = (m, n, mk', s')) (he : e = .returned (.tuple #[.int .i64 m, .int .i64 n])) (hm : Mkr w' base F p kind mk' s') (hT : Touch F w w') : DoPost base p F kind w r e w' :=
  DoPost.of hr he (hm.mono fun g hg => .inl hg) hT

theorem Up.from {F : Nat → Prop} {w w1 w' : World} (h : w.heap.size ≤ w1.heap.size) {g : Nat} (hg : Up F w1 w' g) : Up F w w' g := hg.elim .inl fun h1 => .inr ⟨by omega, h1.2⟩

set_option maxHeartbeats 1600000 in
set_option maxRecDepth 100000 in
theorem mdo_any (w : World) (base p : Nat) (F : Nat → Prop) (kind dd a b n : Int) (mk : Bool) (s : List It) (h : Mkr w base F p kind mk s) (hi : MInv kind mk s) (hk : kind = 1 ∨ kind = 2) (hF : ∀ g, F g → g < w.heap.size) (hd : I64 a ∧ I64 b ∧ I64 n) :
    Calls Try.prog 52 #[.pointer (some ⟨p, 0, none⟩), .agg #[.int .i64 dd, .int .i64 a, .int .i64 b, .int .i64 n]] w (DoPost base p F kind w (marksI kind mk s ⟨dd, a, b, n⟩)) := by
  obtain ⟨P, hP⟩ : ∃ P, DoPost base p F kind w (marksI kind mk s ⟨dd, a, b, n⟩) = P := ⟨_, rfl⟩
  have HP := Lib.hid hP
  rw [hP]; clear hP
  obtain ⟨W, hW⟩ : ∃ W, W = w.alloc (.cells #[.int .i64 dd, .int .i64 a, .int .i64 b, .int .i64 n] 97) := ⟨_, rfl⟩
  have hbW : Below w.heap.size w W := by rw [hW]; exact (Below.refl _ _).alloc (Nat.le_refl _) _
  have hsW : w.heap.size < W.heap.size := by rw [hW]; simp
  have hFW : ∀ g, F g → g < W.heap.size := fun g hg => by have := hF g hg; omega
  have hs1 := hi.small
  have H := Lib.hid (And.intro (h.fresh hbW) (And.intro hi (And.intro hk (And.intro hFW (And.intro hd (And.intro hbW hW)))))); clear h hi hk hF hFW hd hbW hW
  by_cases h1 : dd = 1
  · subst h1
    have hr : marksI kind mk s ⟨1, a, b, n⟩ = if newE s n ≠ 0 then (0, newE s n, mk, s) else ((s.length : Int), 0, mk, s ++ [newI (if mk = true then 2 else 0) n]) := if_pos rfl
    by_cases he : newE s n = 0
    · rw [if_neg (by simpa using he)] at hr
      have HR := Lib.hid (And.intro hr he); clear hr he
      go_enter Try.func52, Try.ntmps52
      go_wp2_with fail
      refine calls_world (fun V => W = V) H.out.2.2.2.2.2.2 ?_
      rintro V rfl
      refine (make_yes W base p F kind n mk s H.out.1 H.out.2.2.2.1 HR.out.2).mono ?_
      rintro e w1 ⟨rfl, hm1, hT1⟩
      have HZ := Lib.hid (And.intro (hm1.mono (fun g hg => Up.from (Nat.le_of_lt hsW) hg)) ((Touch.ofBelow H.out.2.2.2.2.2.1).trans hT1)); clear hm1 hT1
      go_wp2_with fail
      rw [← HP.out]
      exact DoPost.of HR.out.1 rfl HZ.out.1 HZ.out.2
    · rw [if_pos (by simpa using he)] at hr
      have HR := Lib.hid (And.intro hr he); clear hr he
      go_enter Try.func52, Try.ntmps52
      go_wp2_with fail
      refine calls_world (fun V => W = V) H.out.2.2.2.2.2.2 ?_
      rintro V rfl
      refine (make_no W base p F kind n mk s H.out.1 (by omega) HR.out.2).mono ?_
      rintro e w1 ⟨rfl, rfl⟩
      go_wp2_with fail
      rw [← HP.out]
      exact DoPost.same HR.out.1 rfl H.out.1 (Touch.ofBelow H.out.2.2.2.2.2.1)
  have d1 : (dd == 1) = false := by simpa using h1
  by_cases h2 : dd = 2
  · subst h2
    have hr : marksI kind mk s ⟨2, a, b, n⟩ = (0, setE s ⟨2, a, b, n⟩, mk, if setE s ⟨2, a, b, n⟩ = 0 then setI kind mk ⟨2, a, b, n⟩ s else s) := by
      unfold marksI
      rw [if_neg h1, if_pos rfl]
      split
      · rename_i hq; first | rfl | rw [if_neg hq]
      · rename_i hq; have hq' : setE s ⟨2, a, b, n⟩ = 0 := by simpa using hq
        rw [hq', if_pos rfl]
    have HR := Lib.hid hr; clear hr d1 h1
    go_enter Try.func52, Try.ntmps52
    go_wp2_with fail
    refine calls_world (fun V => W = V) H.out.2.2.2.2.2.2 ?_
    rintro V rfl
    refine (set_any W base p F kind 2 a b n mk s H.out.1 H.out.2.1 H.out.2.2.1 H.out.2.2.2.1 H.out.2.2.2.2.1).mono ?_
    rintro e w1 ⟨rfl, hm1, hT1⟩
    have HZ := Lib.hid (And.intro hm1 ((Touch.ofBelow H.out.2.2.2.2.2.1).trans hT1)); clear hm1 hT1
    go_wp2_with fail
    rw [← HP.out]
    exact DoPost.same HR.out rfl HZ.out.1 HZ.out.2
  have d2 : (dd == 2) = false := by simpa using h2
  by_cases h4 : dd = 4
  · subst h4
    have hr : marksI kind mk s ⟨4, a, b, n⟩ = (0, holdE s ⟨4, a, b, n⟩, mk, if holdE s ⟨4, a, b, n⟩ = 0 then holdI kind mk ⟨4, a, b, n⟩ s else s) := by
      unfold marksI
      rw [if_neg h1, if_neg h2, if_pos (by simp)]
      split
      · rename_i hq; first | rfl | rw [if_neg hq]
      · rename_i hq; have hq' : holdE s ⟨4, a, b, n⟩ = 0 := by simpa using hq
        rw [hq', if_pos rfl]
    have HR := Lib.hid hr; clear hr d1 h1 d2 h2
    go_enter Try.func52, Try.ntmps52
    go_wp2_with fail
    refine calls_world (fun V => W = V) H.out.2.2.2.2.2.2 ?_
    rintro V rfl
    refine (hold_any W base p F kind 4 a b n mk true s H.out.1 H.out.2.1 H.out.2.2.1 H.out.2.2.2.1 H.out.2.2.2.2.1.1 (by simp)).mono ?_
    rintro e w1 ⟨rfl, hm1, hT1⟩
    have HZ := Lib.hid (And.intro hm1 ((Touch.ofBelow H.out.2.2.2.2.2.1).trans hT1)); clear hm1 hT1
    go_wp2_with fail
    rw [← HP.out]
    exact DoPost.same HR.out rfl HZ.out.1 HZ.out.2
  have d4 : (dd == 4) = false := by simpa using h4
  by_cases h3 : dd = 3
  · subst h3
    have hr : marksI kind mk s ⟨3, a, b, n⟩ = (0, holdE s ⟨3, a, b, n⟩, mk, if holdE s ⟨3, a, b, n⟩ = 0 then holdI kind mk ⟨3, a, b, n⟩ s else s) := by
      unfold marksI
      rw [if_neg h1, if_neg h2, if_pos (by simp)]
      split
      · rename_i hq; first | rfl | rw [if_neg hq]
      · rename_i hq; have hq' : holdE s ⟨3, a, b, n⟩ = 0 := by simpa using hq
        rw [hq', if_pos rfl]
    have HR := Lib.hid hr; clear hr d1 h1 d2 h2 d4 h4
    go_enter Try.func52, Try.ntmps52
    go_wp2_with fail
    refine calls_world (fun V => W = V) H.out.2.2.2.2.2.2 ?_
    rintro V rfl
    refine (hold_any W base p F kind 3 a b n mk false s H.out.1 H.out.2.1 H.out.2.2.1 H.out.2.2.2.1 H.out.2.2.2.2.1.1 (by simp)).mono ?_
    rintro e w1 ⟨rfl, hm1, hT1⟩
    have HZ := Lib.hid (And.intro hm1 ((Touch.ofBelow H.out.2.2.2.2.2.1).trans hT1)); clear hm1 hT1
    go_wp2_with fail
    rw [← HP.out]
    exact DoPost.same HR.out rfl HZ.out.1 HZ.out.2
  have d3 : (dd == 3) = false := by simpa using h3
  have h34 : ¬ (dd = 4 ∨ dd = 3) := by rintro (h | h) <;> first | exact h4 h | exact h3 h
  by_cases h6 : dd = 6
  · subst h6
    have hr : marksI kind mk s ⟨6, a, b, n⟩ = if mk = true then (0, 8, mk, s) else ((heldN s : Int), 0, true, beginI s) := by
      unfold marksI
      rw [if_neg h1, if_neg h2, if_neg h34, if_pos rfl]
    cases mk with
    | true =>
      rw [if_pos rfl] at hr
      have HR := Lib.hid hr; clear hr d1 h1 d2 h2 d4 h4 d3 h3 h34
      go_enter Try.func52, Try.ntmps52
      go_wp2_with fail
      refine calls_world (fun V => W = V) H.out.2.2.2.2.2.2 ?_
      rintro V rfl
      refine (begin_no W base p F kind s H.out.1).mono ?_
      rintro e w1 ⟨rfl, rfl⟩
      go_wp2_with fail
      rw [← HP.out]
      exact DoPost.same HR.out rfl H.out.1 (Touch.ofBelow H.out.2.2.2.2.2.1)
    | false =>
      rw [if_neg (by simp)] at hr
      have HR := Lib.hid hr; clear hr d1 h1 d2 h2 d4 h4 d3 h3 h34
      go_enter Try.func52, Try.ntmps52
      go_wp2_with fail
      refine calls_world (fun V => W = V) H.out.2.2.2.2.2.2 ?_
      rintro V rfl
      refine (begin_yes W base p F kind s H.out.1 hs1).mono ?_
      rintro e w1 ⟨rfl, hm1, hT1⟩
      have HZ := Lib.hid (And.intro hm1 ((Touch.ofBelow H.out.2.2.2.2.2.1).trans hT1)); clear hm1 hT1
      go_wp2_with fail
      rw [← HP.out]
      exact DoPost.same HR.out rfl HZ.out.1 HZ.out.2
  have d6 : (dd == 6) = false := by simpa using h6
  by_cases h5 : dd = 5
  · subst h5
    have hr : marksI kind mk s ⟨5, a, b, n⟩ = if mk = false then (0, 8, mk, s) else if n < 0 then (0, 1, mk, s) else (((stepsI n.toNat s).2 : Int), 0, mk, (stepsI n.toNat s).1) := by
      unfold marksI
      rw [if_neg h1, if_neg h2, if_neg h34, if_neg h6, if_pos rfl]
    cases mk with
    | false =>
      rw [if_pos rfl] at hr
      have HR := Lib.hid hr; clear hr d1 h1 d2 h2 d4 h4 d3 h3 h34 d6 h6
      go_enter Try.func52, Try.ntmps52
      go_wp2_with fail
      refine calls_world (fun V => W = V) H.out.2.2.2.2.2.2 ?_
      rintro V rfl
      refine (steps_no W base p F kind n s H.out.1).mono ?_
      rintro e w1 ⟨rfl, rfl⟩
      go_wp2_with fail
      rw [← HP.out]
      exact DoPost.same HR.out rfl H.out.1 (Touch.ofBelow H.out.2.2.2.2.2.1)
    | true =>
      rw [if_neg (by simp)] at hr
      by_cases hn : n < 0
      · rw [if_pos hn] at hr
        have HR := Lib.hid hr; clear hr d1 h1 d2 h2 d4 h4 d3 h3 h34 d6 h6
        go_enter Try.func52, Try.ntmps52
        go_wp2_with fail
        refine calls_world (fun V => W = V) H.out.2.2.2.2.2.2 ?_
        rintro V rfl
        refine (steps_neg W base p F kind n s H.out.1 hn).mono ?_
        rintro e w1 ⟨rfl, rfl⟩
        go_wp2_with fail
        rw [← HP.out]
        exact DoPost.same HR.out rfl H.out.1 (Touch.ofBelow H.out.2.2.2.2.2.1)
      · rw [if_neg hn] at hr
        obtain ⟨j, rfl⟩ : ∃ j : Nat, n = (j : Int) := ⟨n.toNat, by omega⟩
        rw [Int.toNat_natCast] at hr
        have hj9 : j ≤ 9223372036854775807 := by have := H.out.2.2.2.2.1.2.2.2; omega
        have HR := Lib.hid hr; clear hr d1 h1 d2 h2 d4 h4 d3 h3 h34 d6 h6
        go_enter Try.func52, Try.ntmps52
        go_wp2_with fail
        refine calls_world (fun V => W = V) H.out.2.2.2.2.2.2 ?_
        rintro V rfl
        refine (steps_yes W base p j F kind s H.out.1 H.out.2.1 hj9).mono ?_
        rintro e w1 ⟨rfl, hm1, hT1⟩
        have HZ := Lib.hid (And.intro hm1 ((Touch.ofBelow H.out.2.2.2.2.2.1).trans hT1)); clear hm1 hT1
        go_wp2_with fail
        rw [← HP.out]
        exact DoPost.same HR.out rfl HZ.out.1 HZ.out.2
  have d5 : (dd == 5) = false := by simpa using h5
  by_cases h7 : dd = 7
  · subst h7
    have hr : marksI kind mk s ⟨7, a, b, n⟩ = if mk = false then (0, 8, mk, s) else ((endN s : Int), 0, false, endI s) := by
      unfold marksI
      rw [if_neg h1, if_neg h2, if_neg h34, if_neg h6, if_neg h5, if_pos rfl]
    cases mk with
    | false =>
      rw [if_pos rfl] at hr
      have HR := Lib.hid hr; clear hr d1 h1 d2 h2 d4 h4 d3 h3 h34 d6 h6 d5 h5
      go_enter Try.func52, Try.ntmps52
      go_wp2_with fail
      refine calls_world (fun V => W = V) H.out.2.2.2.2.2.2 ?_
      rintro V rfl
      refine (end_no W base p F kind s H.out.1).mono ?_
      rintro e w1 ⟨rfl, rfl⟩
      go_wp2_with fail
      rw [← HP.out]
      exact DoPost.same HR.out rfl H.out.1 (Touch.ofBelow H.out.2.2.2.2.2.1)
    | true =>
      rw [if_neg (by simp)] at hr
      have HR := Lib.hid hr; clear hr d1 h1 d2 h2 d4 h4 d3 h3 h34 d6 h6 d5 h5
      go_enter Try.func52, Try.ntmps52
      go_wp2_with fail
      refine calls_world (fun V => W = V) H.out.2.2.2.2.2.2 ?_
      rintro V rfl
      refine (end_yes W base p F kind s H.out.1 H.out.2.1).mono ?_
      rintro e w1 ⟨rfl, hm1, hT1⟩
      have HZ := Lib.hid (And.intro hm1 ((Touch.ofBelow H.out.2.2.2.2.2.1).trans hT1)); clear hm1 hT1
      go_wp2_with fail
      rw [← HP.out]
      exact DoPost.same HR.out rfl HZ.out.1 HZ.out.2
  have d7 : (dd == 7) = false := by simpa using h7
  have hr : marksI kind mk s ⟨dd, a, b, n⟩ = (0, 7, mk, s) := by
    unfold marksI
    rw [if_neg h1, if_neg h2, if_neg h34, if_neg h6, if_neg h5, if_neg h7]
  have HR := Lib.hid hr; clear hr h1 h2 h4 h3 h34 h6 h5 h7
  go_enter Try.func52, Try.ntmps52
  go_wp2_with fail
  rw [← HP.out]
  rw [← H.out.2.2.2.2.2.2]
  exact DoPost.same HR.out rfl H.out.1 (Touch.ofBelow H.out.2.2.2.2.2.1)

end Go.Proofs.Ytpkccpegdpodoaa
