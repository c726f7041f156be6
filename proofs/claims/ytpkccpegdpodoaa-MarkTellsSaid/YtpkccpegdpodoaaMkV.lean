/- R.Model: Marks: the beginning, steps, the end. -/
import Derived.Test.YtpkccpegdpodoaaMkU
namespace Go.Proofs.Ytpkccpegdpodoaa
open Go.RowKit

attribute [local go_sem ↓] Go.wp_at_zero Go.wp_at_succ

theorem marksI_six (kind : Int) (mk : Bool) (s : List It) (a b n : Int) : marksI kind mk s ⟨6, a, b, n⟩ = if mk = true then (0, 8, mk, s) else ((heldN s : Int), 0, true, beginI s) := by
  unfold marksI
  rw [if_neg (show ¬ (6 : Int) = 1 by decide), if_neg (show ¬ (6 : Int) = 2 by decide), if_neg (show ¬ ((6 : Int) = 4 ∨ (6 : Int) = 3) by decide), if_pos rfl]
theorem marksI_five (kind : Int) (mk : Bool) (s : List It) (a b n : Int) : marksI kind mk s ⟨5, a, b, n⟩ = if mk = false then (0, 8, mk, s) else if n < 0 then (0, 1, mk, s) else (((stepsI n.toNat s).2 : Int), 0, mk, (stepsI n.toNat s).1) := by
  unfold marksI
  rw [if_neg (show ¬ (5 : Int) = 1 by decide), if_neg (show ¬ (5 : Int) = 2 by decide), if_neg (show ¬ ((5 : Int) = 4 ∨ (5 : Int) = 3) by decide), if_neg (show ¬ (5 : Int) = 6 by decide), if_pos rfl]
theorem marksI_seven (kind : Int) (mk : Bool) (s : List It) (a b n : Int) : marksI kind mk s ⟨7, a, b, n⟩ = if mk = false then (0, 8, mk, s) else ((endN s : Int), 0, false, endI s) := by
  unfold marksI
  rw [if_neg (show ¬ (7 : Int) = 1 by decide), if_neg (show ¬ (7 : Int) = 2 by decide), if_neg (show ¬ ((7 : Int) = 4 ∨ (7 : Int) = 3) by decide), if_neg (show ¬ (7 : Int) = 6 by decide), if_neg (show ¬ (7 : Int) = 5 by decide), if_pos rfl]

theorem Mdl.mkcell {w : World} {base p : Nat} {F : Nat → Prop} {nu kind : Int} {mk : Bool} {s : List It} (h : Mdl w base F p nu kind mk s) : w.cell? ⟨p, 3, none⟩ = some (.bool mk) ∧ w.frozen? ⟨p, 3, none⟩ = false ∧ p < w.heap.size ∧ F p ∧ base ≤ p := by
  obtain ⟨A, c, l, h1, h2, h3, h4, h5⟩ := h
  exact ⟨h1.cell 3 rfl, h1.frozen 3, h1.lt, h3, h4⟩
theorem Mdl.setmk {w : World} {base p : Nat} {F : Nat → Prop} {nu kind : Int} {mk : Bool} {s : List It} (h : Mdl w base F p nu kind mk s) (b : Bool) : Mdl (w.setCell ⟨p, 3, none⟩ (.bool b)) base F p nu kind b s := by
  obtain ⟨A, c, l, h1, h2, h3, h4, h5⟩ := h
  exact ⟨A, c, l, h1.set_ 3 _, h2.far_blk h1 (by decide) (by decide) _ _, h3, h4, h5⟩
/-- a thing as it lies in a model -/
theorem Mdl.get {w : World} {base p : Nat} {F : Nat → Prop} {nu kind : Int} {mk : Bool} {s : List It} (h : Mdl w base F p nu kind mk s) {n : Nat} {x : It} (hx : s[n]? = some x) :
    ∃ (g c : Nat) (v : Value), w.cell? ⟨p, 0, none⟩ = some (.slice (some ⟨g, 0, none⟩) s.length c) ∧ w.cell? ⟨g, n * 3, none⟩ = some v ∧ w.cell? ⟨g, n * 3 + 1, none⟩ = some (.int .i64 x.st) ∧ w.cell? ⟨g, n * 3 + 2, none⟩ = some (.bool x.held) ∧ w.frozen? ⟨g, n * 3 + 1, none⟩ = false ∧ F g ∧
      (∀ u, I64 u → Mdl (w.setCell ⟨g, n * 3 + 1, none⟩ (.int .i64 u)) base F p nu kind mk (s.modify n (It.setst u)) ∧ IntKeep w (w.setCell ⟨g, n * 3 + 1, none⟩ (.int .i64 u))) := by
  obtain ⟨A, c, l, h1, h2, h3, h4, h5⟩ := h
  have hl : l.length = s.length := by rw [← h5, its_length]
  rw [← h5] at hx
  obtain ⟨y, hy, rfl⟩ := get_its hx
  obtain ⟨g, rfl, hg1, hg2, q0, q1, q2⟩ := h2.cells hy
  have hne : p ≠ g := fun e => own_ne_ty h2.row h1 (by decide) (by rw [← e]; rfl)
  refine ⟨g, c, _, by rw [← hl]; exact h1.cell 0 rfl, q0, q1, q2, h2.row.frozen rfl _, h2.foot g rfl, fun u hu => ⟨⟨_, c, _, by rw [List.length_set]; exact h1.far (p := ⟨g, n * 3 + 1, none⟩) hne _, h2.setSt hy (by decide) u hu, h3, h4, ?_⟩, IntKeep.set h2.row (by decide) _ _⟩⟩
  rw [its_set l n y { y with st := u } (It.setst u) hy rfl, h5]

set_option maxHeartbeats 1600000 in
set_option maxRecDepth 100000 in
theorem marks6 (w W : World) (base p : Nat) (F : Nat → Prop) (nu kind a b n : Int) (mk : Bool) (s : List It) (h : MdPre w W base p F nu kind 6 a b n mk s) :
    Calls Try.prog 53 #[.pointer (some ⟨p, 0, none⟩), .agg #[.int .i64 6, .int .i64 a, .int .i64 b, .int .i64 n]] w (MdPost base p F nu kind w (marksI kind mk s ⟨6, a, b, n⟩)) := by
  obtain ⟨P, hP⟩ : ∃ P, MdPost base p F nu kind w (marksI kind mk s ⟨6, a, b, n⟩) = P := ⟨_, rfl⟩
  have HP := Lib.hid hP
  rw [hP]; clear hP
  have hsz := h.siz
  have hr := marksI_six kind mk s a b n
  have H := Lib.hid h; clear h
  obtain ⟨y3, yf, hpW, hpF, hpb⟩ := H.out.st.mkcell
  have hplt : p < w.heap.size := H.out.lt p hpF
  have y3' : w.cell? ⟨p, 3, none⟩ = some (.bool mk) := by
    have := y3; rw [H.out.eq, World.cell?_alloc_lt _ _ _ hplt] at this; exact this
  have hs100 := H.out.inv.small
  obtain ⟨N, hN⟩ : ∃ N, s.length = N := ⟨_, rfl⟩
  have p0 : ∃ A c, w.cell? ⟨p, 0, none⟩ = some (.slice A N c) := by
    obtain ⟨A, c, l, h1, -, -, -, h5⟩ := H.out.st
    have h2 := h1.cell 0 (v := .slice A l.length c) rfl
    rw [H.out.eq, World.cell?_alloc_lt _ _ _ hplt, ← its_length l, h5, hN] at h2
    exact ⟨A, c, h2⟩
  obtain ⟨A0, c0, p0⟩ := p0
  rw [hN] at hs100
  have HN := Lib.hid hN; clear hN y3 yf
  cases mk with
  | true =>
    rw [if_pos rfl] at hr
    have HR := Lib.hid hr; clear hr
    go_enter Try.func53, Try.ntmps53
    go_wp2_with fail
    rw [← HP.out, ← H.out.eq]
    exact MdPost.same HR.out rfl H.out.st (Touch.ofBelow H.out.bel)
  | false =>
    rw [if_neg (by simp)] at hr
    have HR := Lib.hid hr; clear hr
    have zf : w.frozen? ⟨p, 3, none⟩ = false := by
      obtain ⟨-, z, -⟩ := H.out.st.mkcell
      rw [H.out.eq] at z
      have : (w.alloc (.cells #[.int .i64 6, .int .i64 a, .int .i64 b, .int .i64 n] 97)).frozen? ⟨p, 3, none⟩ = w.frozen? ⟨p, 3, none⟩ := ((Below.refl w.heap.size w).alloc (Nat.le_refl _) _).frozen (p := ⟨p, 3, none⟩) hplt
      rw [this] at z; exact z
    have hM1 := H.out.st.setmk true
    have hT1 : Touch F w (W.setCell ⟨p, 3, none⟩ (.bool true)) := (Touch.ofBelow H.out.bel).setCell hpF _
    rw [← beginK_zero s, H.out.eq] at hM1
    rw [H.out.eq] at hT1
    rw [World.setCell_alloc_past _ _ _ _ hplt] at hM1 hT1
    have HM := Lib.hid (And.intro hM1 hT1); clear hM1 hT1
    go_enter Try.func53, Try.ntmps53
    go_wp2_with fail
    clear p0 y3' zf
    go_loopg [9, 130] N (fun gk mv iv wr => ∃ (k m : Nat), k ≤ N ∧ gk = N - k ∧ iv = .int .i64 k ∧ mv = .int .i64 m ∧ m ≤ k ∧ Hid (Mdl wr base F p nu kind true (beginK k s) ∧ heldN (s.take k) = m) ∧ Touch F w wr)
    case atStart => exact ⟨0, 0, Nat.zero_le _, rfl, rfl, rfl, Nat.le_refl _, ⟨HM.out.1, rfl⟩, HM.out.2⟩
    case round =>
      obtain ⟨k, m, hk, rfl, rfl, rfl, hm, hkeep, hT⟩ := hrel
      by_cases hlt : k < N
      · obtain ⟨x, hsx⟩ : ∃ x, s[k]? = some x := ⟨_, List.getElem?_eq_getElem (by have := HN.out; omega)⟩
        have hbk := beginK_get k s k hsx
        rw [if_neg (by omega)] at hbk
        obtain ⟨g, c, v, q0, u0, u1, u2, -⟩ := hkeep.out.1.get hbk
        rw [beginK_length, HN.out] at q0
        have hst := beginK_step k s hsx
        have hhn := heldN_step s k hsx
        have b0 : (0 : Int) ≤ (k : Int) := by omega
        have b1 : (k : Int) < (N : Int) := by omega
        obtain ⟨xb, hxb⟩ : ∃ b, x.held = b := ⟨_, rfl⟩
        rw [hxb] at u2 hst hhn
        have HX := Lib.hid (And.intro hst (And.intro hhn hkeep.out)); clear hst hhn hkeep hsx hbk hxb
        cases xb with
        | false =>
          go_wp2_with fail
          go_roundg (N - (k + 1))
          case measure => omega
          case rel => exact ⟨k + 1, m, by omega, rfl, by go_num, rfl, by omega, ⟨by rw [HX.out.1]; exact HX.out.2.2.1, by rw [HX.out.2.1, HX.out.2.2.2]; rfl⟩, hT⟩
        | true =>
          go_wp2_with fail
          refine (rshade_any wr base p F nu kind (k : Int) true (beginK k s) HX.out.2.2.1 (.inr ⟨k, rfl, by rw [beginK_length, HN.out]; exact hlt⟩) (by rw [beginK_length, HN.out]; omega)).mono ?_
          rintro e w5 ⟨rfl, h5a, h5b, h5c, h5d⟩
          have HF := Lib.hid (And.intro h5a (hT.trans h5b)); clear h5a h5b h5c h5d u0 u1 u2 q0
          go_wp2_with fail
          go_roundg (N - (k + 1))
          case measure => omega
          case rel => exact ⟨k + 1, m + 1, by omega, rfl, by go_num, by go_num, by omega, ⟨by rw [HX.out.1]; exact HF.out.1, by rw [HX.out.2.1, HX.out.2.2.2]; rfl⟩, HF.out.2⟩
      · obtain rfl : N = k := by omega
        have hf1 := hkeep.out.1
        have hf2 := hkeep.out.2
        rw [List.take_of_length_le (by have := HN.out; omega)] at hf2
        rw [← HN.out, beginK_all] at hf1
        have HF := Lib.hid (And.intro hf1 hf2); clear hf1 hf2 hkeep
        go_wp2_with fail
        rw [← HP.out]
        exact MdPost.same HR.out (by rw [HF.out.2]; rfl) HF.out.1 hT

end Go.Proofs.Ytpkccpegdpodoaa
