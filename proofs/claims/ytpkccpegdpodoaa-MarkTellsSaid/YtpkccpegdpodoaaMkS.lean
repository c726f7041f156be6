/- R.Model: Marks, of a new thing; of another deed. -/
import Derived.Test.YtpkccpegdpodoaaMkR
import Derived.StillTailTactics
namespace Go.Proofs.Ytpkccpegdpodoaa
open Go.RowKit

attribute [local go_sem ↓] Go.wp_at_zero Go.wp_at_succ

/-- what a deed leaves -/
def MdPost (base p : Nat) (F : Nat → Prop) (nu kind : Int) (w : World) (r : Int × Int × Bool × List It) (e : Ending) (w' : World) : Prop :=
  e = .returned (.tuple #[.int .i64 r.1, .int .i64 r.2.1]) ∧ Mdl w' base (Up F w w') p nu kind r.2.2.1 r.2.2.2 ∧ Touch F w w'
theorem MdPost.of {base p : Nat} {F : Nat → Prop} {nu kind : Int} {w w' : World} {r : Int × Int × Bool × List It} {e : Ending} {m n : Int} {mk' : Bool} {s' : List It} (hr : r = (m, n, mk', s')) (he : e = .returned (.tuple #[.int .i64 m, .int .i64 n])) (hm : Mdl w' base (Up F w w') p nu kind mk' s') (hT : Touch F w w') : MdPost base p F nu kind w r e w' := by
  subst hr; exact ⟨he, hm, hT⟩
theorem MdPost.same {base p : Nat} {F : Nat → Prop} {nu kind : Int} {w w' : World} {r : Int × Int × Bool × List It} {e : Ending} {m n : Int} {mk' : Bool} {s' : List It} (hr : r = (m, n, mk', s')) (he : e = .returned (.tuple #[.int .i64 m, .int .i64 n])) (hm : Mdl w' base F p nu kind mk' s') (hT : Touch F w w') : MdPost base p F nu kind w r e w' :=
  MdPost.of hr he (hm.mono fun g hg => .inl hg) hT

/-- what is known ahead of a deed, its deed boxed -/
structure MdPre (w W : World) (base p : Nat) (F : Nat → Prop) (nu kind dd a b n : Int) (mk : Bool) (s : List It) : Prop where
  eq : W = w.alloc (.cells #[.int .i64 dd, .int .i64 a, .int .i64 b, .int .i64 n] 97)
  st : Mdl W base F p nu kind mk s
  inv : MInv kind mk s
  kd : kind = 1 ∨ kind = 2
  lt : ∀ g, F g → g < w.heap.size
  ia : I64 a
  ib : I64 b
  in_ : I64 n
  bel : Below w.heap.size w W
  siz : W.heap.size = w.heap.size + 1
  blk : Blk W w.heap.size 97 #[.int .i64 dd, .int .i64 a, .int .i64 b, .int .i64 n]
theorem MdPre.mk_ {w : World} {base p : Nat} {F : Nat → Prop} {nu kind dd a b n : Int} {mk : Bool} {s : List It} (h : Mdl w base F p nu kind mk s) (hi : MInv kind mk s) (hk : kind = 1 ∨ kind = 2) (hF : ∀ g, F g → g < w.heap.size) (hd : I64 a ∧ I64 b ∧ I64 n) :
    MdPre w (w.alloc (.cells #[.int .i64 dd, .int .i64 a, .int .i64 b, .int .i64 n] 97)) base p F nu kind dd a b n mk s :=
  ⟨rfl, h.fresh ((Below.refl _ _).alloc (Nat.le_refl _) _), hi, hk, hF, hd.1, hd.2.1, hd.2.2, (Below.refl _ _).alloc (Nat.le_refl _) _, by simp, Blk.new _ _ _⟩

set_option maxHeartbeats 1600000 in
set_option maxRecDepth 100000 in
theorem marks1 (w W : World) (base p : Nat) (F : Nat → Prop) (nu kind a b n : Int) (mk : Bool) (s : List It) (h : MdPre w W base p F nu kind 1 a b n mk s) :
    Calls Try.prog 53 #[.pointer (some ⟨p, 0, none⟩), .agg #[.int .i64 1, .int .i64 a, .int .i64 b, .int .i64 n]] w (MdPost base p F nu kind w (marksI kind mk s ⟨1, a, b, n⟩)) := by
  obtain ⟨P, hP⟩ : ∃ P, MdPost base p F nu kind w (marksI kind mk s ⟨1, a, b, n⟩) = P := ⟨_, rfl⟩
  have HP := Lib.hid hP
  rw [hP]; clear hP
  have hsz := h.siz
  have hr : marksI kind mk s ⟨1, a, b, n⟩ = if newE s n ≠ 0 then (0, newE s n, mk, s) else ((s.length : Int), 0, mk, s ++ [newI (if mk = true then 2 else 0) n]) := if_pos rfl
  have H := Lib.hid h; clear h
  have hp : p < W.heap.size := by obtain ⟨A, c, l, h1, -⟩ := H.out.st; exact h1.lt
  by_cases he : newE s n = 0
  · rw [if_neg (by simpa using he)] at hr
    obtain ⟨e1, e2, e3⟩ := newE_ok he
    obtain ⟨j, rfl⟩ := Int.eq_ofNat_of_zero_le e1
    have HR := Lib.hid (And.intro hr he); clear hr he
    go_enter Try.func53, Try.ntmps53
    go_wp2_with fail
    refine calls_world (fun V => W = V) H.out.eq ?_
    rintro V rfl
    refine (newFault_any W base p F nu kind 1 a b (j : Int) mk s H.out.st (by omega)).mono ?_
    rintro e w1 ⟨rfl, hb1⟩
    rw [HR.out.2]
    have hs1 := hb1.size
    have hM1 := H.out.st.fresh hb1
    have hD1 := H.out.blk.fresh hb1
    have hmk : w1.cell? ⟨p, 3, none⟩ = some (.bool mk) := by obtain ⟨A, c, l, h1, -⟩ := hM1; exact h1.cell 3 rfl
    have hn3 := hD1.cell 3 (v := .int .i64 (j : Int)) rfl
    have HM := Lib.hid (And.intro hM1 (H.out.bel.trans (hb1.mono (by omega)))); clear hM1 hD1 hb1
    rcases Bool.eq_false_or_eq_true mk with hm | hm
    all_goals
      rw [hm] at hmk
      have HMK := Lib.hid hm; clear hm
      go_wp2_with fail
      refine (more_any w1 base p F nu kind _ j mk s HM.out.1 (fun g hg => by have := H.out.lt g hg; omega) (by omega) (by omega) (by unfold I64; omega)).mono ?_
      rintro e w2 ⟨rfl, hm2, hT2⟩
      have HZ := Lib.hid (And.intro (hm2.mono (fun g hg => Up.from (by omega : w.heap.size ≤ w1.heap.size) hg)) ((Touch.ofBelow HM.out.2).trans hT2)); clear hm2 hT2
      go_wp2_with fail
      rw [← HP.out]
      refine MdPost.of HR.out.1 rfl ?_ HZ.out.2
      have h1 := HZ.out.1
      rw [HMK.out] at h1 ⊢
      exact h1
  · rw [if_pos (by simpa using he)] at hr
    have d1 : (newE s n != 0) = true := by simpa using he
    obtain ⟨er, her⟩ : ∃ e, newE s n = e := ⟨_, rfl⟩
    rw [her] at hr d1
    have HR := Lib.hid (And.intro hr her); clear hr he her
    go_enter Try.func53, Try.ntmps53
    go_wp2_with fail
    refine calls_world (fun V => W = V) H.out.eq ?_
    rintro V rfl
    refine (newFault_any W base p F nu kind 1 a b n mk s H.out.st (by have := H.out.inv.small; omega)).mono ?_
    rintro e w1 ⟨rfl, hb1⟩
    rw [HR.out.2]
    have hs1 := hb1.size
    have HZ := Lib.hid (And.intro (H.out.st.fresh hb1) (H.out.bel.trans (hb1.mono (by omega)))); clear hb1
    go_wp2_with fail
    rw [← HP.out]
    exact MdPost.same HR.out.1 rfl HZ.out.1 (Touch.ofBelow HZ.out.2)

set_option maxHeartbeats 800000 in
set_option maxRecDepth 100000 in
theorem marksX (w W : World) (base p : Nat) (F : Nat → Prop) (nu kind dd a b n : Int) (mk : Bool) (s : List It) (h : MdPre w W base p F nu kind dd a b n mk s) (h1 : dd ≠ 1) (h2 : dd ≠ 2) (h4 : dd ≠ 4) (h3 : dd ≠ 3) (h6 : dd ≠ 6) (h5 : dd ≠ 5) (h7 : dd ≠ 7) :
    Calls Try.prog 53 #[.pointer (some ⟨p, 0, none⟩), .agg #[.int .i64 dd, .int .i64 a, .int .i64 b, .int .i64 n]] w (MdPost base p F nu kind w (marksI kind mk s ⟨dd, a, b, n⟩)) := by
  obtain ⟨P, hP⟩ : ∃ P, MdPost base p F nu kind w (marksI kind mk s ⟨dd, a, b, n⟩) = P := ⟨_, rfl⟩
  have HP := Lib.hid hP
  rw [hP]; clear hP
  have hr : marksI kind mk s ⟨dd, a, b, n⟩ = (0, 7, mk, s) := by
    unfold marksI
    rw [if_neg h1, if_neg h2, if_neg (by rintro (h | h) <;> first | exact h4 h | exact h3 h), if_neg h6, if_neg h5, if_neg h7]
  have d1 : (dd == 1) = false := by simpa using h1
  have d2 : (dd == 2) = false := by simpa using h2
  have d4 : (dd == 4) = false := by simpa using h4
  have d3 : (dd == 3) = false := by simpa using h3
  have d6 : (dd == 6) = false := by simpa using h6
  have d5 : (dd == 5) = false := by simpa using h5
  have d7 : (dd == 7) = false := by simpa using h7
  have H := Lib.hid (And.intro h hr); clear h hr h1 h2 h4 h3 h6 h5 h7
  go_enter Try.func53, Try.ntmps53
  go_wp2_with fail
  rw [← HP.out, ← H.out.1.eq]
  exact MdPost.same H.out.2 rfl H.out.1.st (Touch.ofBelow H.out.1.bel)

end Go.Proofs.Ytpkccpegdpodoaa
