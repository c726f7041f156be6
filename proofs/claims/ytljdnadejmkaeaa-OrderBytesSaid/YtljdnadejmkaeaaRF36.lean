/- RF: Live11. -/
import Derived.Test.YtljdnadejmkaeaaRF23
/- Is an exit too large: live.large. -/
namespace Go.Proofs.Ytljdnadejmkaeaa
open Go.RowKit

set_option maxRecDepth 100000 in
theorem llarge_any (B sc mc : Nat) (SA MA : Option Addr) (x : Ex) (w : World) (hm : At w B MA x.makes) (hB : B ≤ w.heap.size) (hml : x.makes.length ≤ 9223372036854775807) :
    Calls Try.prog 73 #[.agg #[.int .i64 x.at_, .int .i64 x.steps, .slice SA x.sets.length sc, .slice MA x.makes.length mc]] w fun e w' => e = .returned (.bool (Liv.large x)) ∧ Below w.heap.size w w' := by
  have H := Lib.hid hm; clear hm
  by_cases h1 : 60 < x.sets.length
  · have hL : Liv.large x = true := by unfold Liv.large; simp [h1]
    have h2 : (60 : Int) < (x.sets.length : Int) := by omega
    have HQ := Lib.hid hL; clear hL
    go_enter Try.func73, Try.ntmps73
    go_wp2_with fail
    go_ret
    exact ⟨by rw [HQ.out]; rfl, (Below.refl _ _).alloc (Nat.le_refl _) _⟩
  · have h2 : ¬ (60 : Int) < (x.sets.length : Int) := by omega
    by_cases h3 : 300 < x.makes.length
    · have hL : Liv.large x = true := by unfold Liv.large; simp [h3]
      have h4 : (300 : Int) < (x.makes.length : Int) := by omega
      have HQ := Lib.hid hL; clear hL
      go_enter Try.func73, Try.ntmps73
      go_wp2_with fail
      go_ret
      exact ⟨by rw [HQ.out]; rfl, (Below.refl _ _).alloc (Nat.le_refl _) _⟩
    · have hL : Liv.large x = x.makes.any Liv.wide := by unfold Liv.large; simp [h1, h3]
      have h4 : ¬ (300 : Int) < (x.makes.length : Int) := by omega
      obtain ⟨q, hq⟩ : ∃ q, x.makes.any Liv.wide = q := ⟨_, rfl⟩
      rw [hq] at hL
      have HQ := Lib.hid (And.intro hL hq); clear hL hq
      go_enter Try.func73, Try.ntmps73
      go_wp2_with fail
      refine (containsFuncMk_any MA mc B 117 #[] Liv.wide x.makes _ (H.out.alloc hB _) (by simp; omega) hml egLarge (predLarge x.makes _)).mono ?_
      rintro e w1 ⟨rfl, hb1⟩
      rw [HQ.out.2]
      have hbl : Below w.heap.size w w1 := ((Below.refl _ _).alloc (Nat.le_refl _) _).trans (hb1.mono (by simp))
      cases q with
      | true =>
        go_wp2_with fail
        go_ret
        exact ⟨by rw [HQ.out.1]; rfl, hbl⟩
      | false =>
        go_wp2_with fail
        go_ret
        exact ⟨by rw [HQ.out.1]; rfl, hbl⟩

end Go.Proofs.Ytljdnadejmkaeaa
