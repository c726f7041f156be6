/- The law of what is marked: the closed fact; all deeds. -/
import Derived.Test.YtpkccpegdpodoaaMkX
import Derived.Test.YtpkccpegdpodoaaTypes
namespace Go.Proofs.Ytpkccpegdpodoaa
open Go.RowKit

attribute [local go_sem ↓] Go.wp_at_zero Go.wp_at_succ

theorem marksI_one (a b : Int) : marksI 1 false [] ⟨1, a, b, 0⟩ = (0, 0, false, [⟨[], 0, true⟩]) := by
  unfold marksI
  rw [if_pos rfl, if_neg (show ¬ newE [] 0 ≠ 0 by decide)]
  rfl
theorem marksI_two : marksI 1 false [⟨[], 0, true⟩] ⟨6, 0, 0, 0⟩ = (1, 0, true, [⟨[], 1, true⟩]) := by
  rw [marksI_six, if_neg (by decide)]
  rfl
theorem UpLt {F : Nat → Prop} {w w' : World} (hF : ∀ g, F g → g < w.heap.size) (hs : w.heap.size ≤ w'.heap.size) : ∀ g, Up F w w' g → g < w'.heap.size := fun g hg => hg.elim (fun h => by have := hF g h; omega) (fun h => h.2)
theorem UpGe {F : Nat → Prop} {w w' : World} {base : Nat} (hF : ∀ g, F g → base ≤ g) (hs : base ≤ w.heap.size) : ∀ g, Up F w w' g → base ≤ g := fun g hg => hg.elim (fun h => hF g h) (fun h => by have := h.1; omega)

set_option maxHeartbeats 1600000 in
set_option maxRecDepth 100000 in
theorem marked_any (w : World) : Calls Try.prog 50 #[] w fun e w' => e = .returned (.bool true) ∧ Below w.heap.size w w' := by
  have i0 : I64 0 := by unfold I64; omega
  have H0 := Lib.hid (And.intro i0 (And.intro (MInv.start 1) (And.intro marksI_one marksI_two))); clear i0
  go_enter Try.func50, Try.ntmps50
  go_wp2_with fail
  refine (mnew_yes 1 w (.inl rfl)).mono ?_
  rintro e w1 ⟨rfl, hm1, hb1⟩
  have hs1 := hb1.size
  have hlt1 := hm1.fine_len
  have HM1 := Lib.hid (And.intro hm1 hb1); clear hm1 hb1
  go_wp2_with fail
  refine (mdo_any w1 w.heap.size w.heap.size (fun g => g = w.heap.size) 1 1 0 0 0 false [] HM1.out.1 H0.out.2.1 (.inl rfl) (fun g hg => by subst hg; exact hlt1) ⟨H0.out.1, H0.out.1, H0.out.1⟩).mono ?_
  rintro e w2 ⟨he, hm2, hT2⟩
  rw [H0.out.2.2.1] at he hm2
  subst he
  have hs2 := hT2.size
  have hb2 : Below w.heap.size w w2 := HM1.out.2.trans (hT2.below (fun g hg => Nat.le_of_eq hg.symm) hs1)
  have hi2 := marks_inv (.inl rfl) H0.out.2.1 ⟨1, 0, 0, 0⟩
  rw [H0.out.2.2.1] at hi2
  have HM2 := Lib.hid (And.intro hm2 (And.intro hb2 hi2)); clear hm2 hb2 hi2 hT2
  simp only
  go_wp2_with fail
  refine (mdo_any w2 w.heap.size w.heap.size (Up (fun g => g = w.heap.size) w1 w2) 1 6 0 0 0 false _ HM2.out.1 HM2.out.2.2 (.inl rfl) (UpLt (fun g hg => by subst hg; exact hlt1) hs2) ⟨H0.out.1, H0.out.1, H0.out.1⟩).mono ?_
  rintro e w3 ⟨he, hm3, hT3⟩
  rw [H0.out.2.2.2] at he hm3
  subst he
  have hs3 := hT3.size
  have hb3 : Below w.heap.size w w3 := HM2.out.2.1.trans (hT3.below (UpGe (fun g hg => Nat.le_of_eq hg.symm) hs1) (by omega))
  have HM3 := Lib.hid (And.intro hm3 hb3); clear hm3 hb3 hT3
  simp only
  go_wp2_with fail
  refine (marking_any w3 w.heap.size w.heap.size _ 1 true _ HM3.out.1).mono ?_
  rintro e w4 ⟨rfl, rfl⟩
  go_wp2_with fail
  refine (colours_any w3 w.heap.size w.heap.size _ 1 true _ HM3.out.1 (by simp)).mono ?_
  rintro e w5 ⟨A, c, rfl, ho5, hb5⟩
  have hs5 := hb5.size
  have HO := Lib.hid (And.intro ho5 (HM3.out.2.trans (hb5.mono (by omega)))); clear ho5 hb5
  go_wp2_with fail
  have h11 : ∀ x ∈ ([1] : List Int), Flat.ok x := by intro x hx; simp at hx; subst hx; exact (by unfold I64; omega : I64 1)
  refine (eqInt_n A (some ⟨w5.heap.size, 0, none⟩) c 1 (w5.heap.size + 1) 1 1 [1] [1] _ rfl rfl ?_ (At.built w5 _ _ [(1 : Int)] rfl h11) (by omega)).mono ?_
  · exact (((HO.out.1.at_ h11).alloc (Nat.le_refl _) _).more (by omega))
  rintro e w6 ⟨rfl, rfl⟩
  rw [decide_eq_true rfl]
  go_wp2_with fail
  go_ret
  exact ⟨rfl, HO.out.2.alloc (by omega) _⟩

end Go.Proofs.Ytpkccpegdpodoaa
