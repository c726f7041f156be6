/- The closed fact 'scanned'; the law ScanClash, walked. -/
import Derived.Test.YtljdnadejmkaeaaScan6
import Derived.Test.YtljdnadejmkaeaaScan7
import Derived.Test.YtljdnadejmkaeaaT2
namespace Go.Proofs.Ytljdnadejmkaeaa
open Go.RowKit

attribute [local go_sem ↓] Go.wp_at_zero Go.wp_at_succ

def l3 : List (Int × Int) := [(0, 9), (1, 5), (2, 4)]
def p3 : List (Int × Int) := [(-1, 0), (1, -1), (0, -1)]
theorem scanned_fact : Scn.slotted l3 2 (Scn.byFrom l3 l3.length) (Scn.byFrom l3 l3.length).length = (p3, 1) := by decide +kernel

theorem l3_ok : ∀ z ∈ l3, Flat.ok z := by
  intro z hz; simp [l3] at hz; rcases hz with rfl | rfl | rfl <;> exact ⟨⟨by decide, by decide⟩, ⟨by decide, by decide⟩⟩
theorem p3_ok : ∀ z ∈ p3, Flat.ok z := by
  intro z hz; simp [p3] at hz; rcases hz with rfl | rfl | rfl <;> exact ⟨⟨by decide, by decide⟩, ⟨by decide, by decide⟩⟩

set_option maxHeartbeats 800000 in
set_option maxRecDepth 100000 in
theorem scanned_any (w : World) : Calls Try.prog 35 #[] w fun e w' => e = .returned (.bool true) ∧ Below w.heap.size w w' := by
  go_enter Try.func35, Try.ntmps35
  go_wp2_with fail
  refine calls_world (fun W => At W W.heap.size (some ⟨w.heap.size, 0, none⟩) l3 ∧ Below w.heap.size w W ∧ w.heap.size ≤ W.heap.size) ⟨?_, ?_, by simp⟩ ?_
  · exact (At.built w #[.int .i64 0, .int .i64 9, .int .i64 1, .int .i64 5, .int .i64 2, .int .i64 4] 78 l3 rfl l3_ok).more (by simp)
  · exact (Below.refl _ _).alloc (Nat.le_refl _) _
  rintro W ⟨hT, hb0, hs0⟩
  refine (assign_any W.heap.size 3 (some ⟨w.heap.size, 0, none⟩) l3 2 W hT (Nat.le_refl _) (by decide) (by decide) (by decide)).mono ?_
  rintro e w1 ⟨ga, ac, he, hown, hok, hb1⟩
  rw [scanned_fact] at he hown hok
  subst he
  have hs1 := hb1.size
  have hat := hown.at_ hok
  have HA := Lib.hid hat; clear hat hown hok hT
  go_wp2_with fail
  refine calls_world (fun W2 => At W2 W2.heap.size (some ⟨ga, 0, none⟩) p3 ∧ At W2 W2.heap.size (some ⟨w1.heap.size, 0, none⟩) p3 ∧ Below w.heap.size w W2) ⟨?_, ?_, ?_⟩ ?_
  · exact (HA.out.alloc (Nat.le_refl _) _).more (by simp)
  · exact (At.built w1 #[.int .i64 (-1), .int .i64 0, .int .i64 1, .int .i64 (-1), .int .i64 0, .int .i64 (-1)] 90 p3 rfl p3_ok).more (by simp)
  · exact (hb0.trans (hb1.mono hs0)).alloc (by omega) _
  rintro W2 ⟨hA1, hA2, hb2⟩
  refine (eqRPlace_any _ _ ac 3 W2.heap.size p3 p3 W2 hA1 hA2 (Nat.le_refl _) (by decide) (by decide)).mono ?_
  rintro e w3 ⟨rfl, hb3⟩
  go_wp2_with fail
  go_ret
  exact ⟨ret_bool (by simp), hb2.trans (hb3.mono hb2.size)⟩

end Go.Proofs.Ytljdnadejmkaeaa
