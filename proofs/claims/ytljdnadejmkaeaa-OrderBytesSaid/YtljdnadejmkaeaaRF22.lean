/- RF: Live9. -/
import Derived.Test.YtljdnadejmkaeaaRF21
/- Is an exit too large: the reference. -/
namespace Go.Proofs.Ytljdnadejmkaeaa
open Go.RowKit

namespace Liv
def wide (m : Mk) : Bool := decide (100 < m.vals.length)
def large (x : Ex) : Bool := x.makes.any wide || decide (60 < x.sets.length) || decide (300 < x.makes.length)
end Liv

set_option maxRecDepth 100000 in
theorem rlarge_any (B sc mc : Nat) (SA MA : Option Addr) (x : Ex) (w : World) (hm : At w B MA x.makes) (hB : B ≤ w.heap.size) (hsl : x.sets.length ≤ 9223372036854775807) (hml : x.makes.length ≤ 9223372036854775807) :
    Calls Try.prog 64 #[.agg #[.int .i64 x.at_, .int .i64 x.steps, .slice SA x.sets.length sc, .slice MA x.makes.length mc]] w fun e w' => e = .returned (.bool (Liv.large x)) ∧ Below w.heap.size w w' := by
  have H := Lib.hid hm; clear hm
  go_enter Try.func64, Try.ntmps64
  go_wp2_with fail
  refine wp_world (fun W => Blk W w.heap.size 31 #[.int .i64 x.at_, .int .i64 x.steps, .slice SA x.sets.length sc, .slice MA x.makes.length mc] ∧ Below w.heap.size w W ∧ w.heap.size + 1 ≤ W.heap.size) ⟨Blk.new _ _ _, (Below.refl _ _).alloc (Nat.le_refl _) _, by simp⟩ ?_
  rintro W ⟨hG, hb0, hs0⟩
  have g3 := hG.cell 3 (v := .slice MA x.makes.length mc) rfl
  have HG := Lib.hid hG; clear hG
  have ltW : w.heap.size < W.heap.size := by omega
  go_wp2_with fail
  clear g3
  go_loopg [8] (x.makes.length) (fun gk iv wr => ∃ (k : Nat), k ≤ x.makes.length ∧ gk = x.makes.length - k ∧ iv = .int .i64 k ∧ Hid ((x.makes.take k).any Liv.wide = false) ∧ Below (w.heap.size + 1) W wr ∧ w.heap.size + 1 ≤ wr.heap.size)
  case atStart => exact ⟨0, Nat.zero_le _, rfl, rfl, by simp [Hid], Below.refl _ _, hs0⟩
  case round =>
    obtain ⟨k, hk, rfl, rfl, hno, hbl, hsz⟩ := hrel
    have hbw : Below w.heap.size w wr := hb0.trans (hbl.mono (by omega))
    by_cases hlt : k < x.makes.length
    · obtain ⟨b, o, m, VA, vc, rfl, hb, hx, e0, e1, e2, e3, -, hvc, -⟩ := (H.out.below (hbw.mono hB)).mk_ hlt
      have hsn := any_snoc Liv.wide x.makes k m hx
      rw [hno.out, Bool.false_or] at hsn
      have hbad : Liv.wide m = true → x.makes.any Liv.wide = true := fun h => List.any_eq_true.2 ⟨m, List.mem_of_getElem? hx, h⟩
      have HS := Lib.hid (And.intro hsn hbad); clear hsn hbad hx hno hvc
      have hk0 : (0 : Int) ≤ (k : Int) := by omega
      have hk1 : (k : Int) < (x.makes.length : Int) := by omega
      by_cases h1 : 100 < m.vals.length
      · have hq : Liv.large x = true := by unfold Liv.large; rw [HS.out.2 (by simp [Liv.wide, h1])]; rfl
        have h2 : (100 : Int) < (m.vals.length : Int) := by omega
        have HQ := Lib.hid hq; clear hq
        go_wp2_with fail
        go_ret
        exact ⟨by rw [HQ.out]; rfl, hbw.alloc (by omega) _⟩
      · have hw : Liv.wide m = false := by simp [Liv.wide]; omega
        have h2 : ¬ (100 : Int) < (m.vals.length : Int) := by omega
        have HQ := Lib.hid hw; clear hw
        go_wp2_with fail
        go_roundg (x.makes.length - (k + 1))
        case measure => omega
        case rel => exact ⟨k + 1, by omega, rfl, by go_num, by unfold Hid; rw [HS.out.1, HQ.out], hbl.alloc (by omega) _, by simp; omega⟩
    · have hq := hno.out
      rw [List.take_of_length_le (by omega)] at hq
      have hG2 : Blk wr w.heap.size 31 #[.int .i64 x.at_, .int .i64 x.steps, .slice SA x.sets.length sc, .slice MA x.makes.length mc] := (hbl.block _ (by omega)).trans HG.out
      have g2 := hG2.cell 2 (v := .slice SA x.sets.length sc) rfl
      have g3 := hG2.cell 3 (v := .slice MA x.makes.length mc) rfl
      have ltr : w.heap.size < wr.heap.size := by omega
      clear hG2
      by_cases h1 : 60 < x.sets.length
      · have hL : Liv.large x = true := by unfold Liv.large; simp [h1]
        have h2 : (60 : Int) < (x.sets.length : Int) := by omega
        have HQ := Lib.hid hL; clear hL hq hno
        go_wp2_with fail
        go_ret
        exact ⟨by rw [HQ.out]; rfl, hbw⟩
      · have h2 : ¬ (60 : Int) < (x.sets.length : Int) := by omega
        by_cases h3 : 300 < x.makes.length
        · have hL : Liv.large x = true := by unfold Liv.large; simp [h3]
          have h4 : (300 : Int) < (x.makes.length : Int) := by omega
          have HQ := Lib.hid hL; clear hL hq hno
          go_wp2_with fail
          go_ret
          exact ⟨by rw [HQ.out]; rfl, hbw⟩
        · have hL : Liv.large x = false := by unfold Liv.large; rw [hq]; simp; omega
          have h4 : ¬ (300 : Int) < (x.makes.length : Int) := by omega
          have HQ := Lib.hid hL; clear hL hq hno
          go_wp2_with fail
          go_ret
          exact ⟨by rw [HQ.out]; rfl, hbw⟩

end Go.Proofs.Ytljdnadejmkaeaa
