/- RF: Live5. -/
import Derived.Test.YtljdnadejmkaeaaRF1
import Derived.Test.YtljdnadejmkaeaaRF12
import Derived.Deep.DeepMust
/- What an instruction asks, and whether it has a value: ir's functions. -/
namespace Go.Proofs.Ytljdnadejmkaeaa
open Go.RowKit

theorem irTells_any (op : Int) (w : World) : Calls Try.prog 114 #[.int .i64 op] w fun e w' => e = .returned (.bool (Liv.tells op)) ∧ Below w.heap.size w w' := by
  go_enter Try.func114, Try.ntmps114
  go_wp2_with fail
  refine (ofIr_any op w).mono ?_
  rintro e w1 ⟨lo, hi, ex, k, rfl, hb1⟩
  have hs1 := hb1.size
  go_wp2_with fail
  go_ret
  exact ⟨rfl, hb1.alloc hs1 _⟩

theorem known_any (op : Int) (w : World) : Calls Try.prog 111 #[.int .i64 op] w fun e w' => e = .returned (.bool (Liv.isOp op)) ∧ w = w' := by
  obtain ⟨q, hq⟩ : ∃ q, Liv.isOp op = q := ⟨_, rfl⟩
  rw [hq]
  by_cases h0 : 1 ≤ op
  · by_cases h1 : op < 20
    · have : q = true := by rw [← hq]; simp [Liv.isOp, h0]; omega
      clear hq; subst this
      go_enter Try.func111, Try.ntmps111
      go_wp2_with fail
      go_ret
      exact ⟨rfl, rfl⟩
    · have : q = false := by rw [← hq]; simp [Liv.isOp, h0]; omega
      clear hq; subst this
      go_enter Try.func111, Try.ntmps111
      go_wp2_with fail
      go_ret
      exact ⟨rfl, rfl⟩
  · have : q = false := by rw [← hq]; simp [Liv.isOp, h0]
    clear hq; subst this
    go_enter Try.func111, Try.ntmps111
    go_wp2_with fail
    go_ret
    exact ⟨rfl, rfl⟩

namespace Liv
def asks (x : TI) : List Int := [x.a, x.b, x.c].take (asksN x.op)
theorem asksN_le (op : Int) : asksN op ≤ 3 := by unfold asksN; repeat' split
                                                 all_goals omega
theorem asksN_no {op : Int} (h : isOp op = false) : asksN op = 0 := by
  unfold isOp at h
  rw [Bool.and_eq_false_iff] at h
  simp only [decide_eq_false_iff_not] at h
  unfold asksN
  repeat' split
  all_goals omega
end Liv
theorem At.take_ {α : Type} [Enc α] {w : World} {B : Nat} {A : Option Addr} {l : List α} (h : At w B A l) (k : Nat) : At w B A (l.take k) := fun i x hx => h i x (by
  rw [List.getElem?_take] at hx
  split at hx
  · exact hx
  · cases hx)

set_option maxRecDepth 100000 in
theorem irAsks_any (x : TI) (hx : I64 x.a ∧ I64 x.b ∧ I64 x.c) (w : World) :
    Calls Try.prog 67 #[.agg #[.int .i64 x.op, .int .i64 x.a, .int .i64 x.b, .int .i64 x.c, .int .i64 x.n, .int .i64 x.exit, .int .i64 x.k.1, .int .i64 x.k.2]] w fun e w' => ∃ A d, e = .returned (.slice A (Liv.asks x).length d) ∧ Own w' w.heap.size 3 A d (Liv.asks x) ∧ Below w.heap.size w w' := by
  obtain ⟨i0, hi, hz0, hz1, hz2⟩ := info_parts infoInt
  have hn := Liv.asksN_le x.op
  have HX := Lib.hid hx; clear hx
  obtain ⟨C, hC⟩ : ∃ C : Array Value, C = #[.int .i64 x.op, .int .i64 x.a, .int .i64 x.b, .int .i64 x.c, .int .i64 x.n, .int .i64 x.exit, .int .i64 x.k.1, .int .i64 x.k.2] := ⟨_, rfl⟩
  go_enter Try.func67, Try.ntmps67
  go_wp2_with fail
  refine calls_world (fun W => Blk W w.heap.size 121 #[.int .i64 x.op, .int .i64 x.a, .int .i64 x.b, .int .i64 x.c, .int .i64 x.n, .int .i64 x.exit, .int .i64 x.k.1, .int .i64 x.k.2] ∧ Below w.heap.size w W ∧ w.heap.size + 1 ≤ W.heap.size) ⟨Blk.new _ _ _, (Below.refl _ _).alloc (Nat.le_refl _) _, by simp⟩ ?_
  clear hC C
  rintro W ⟨hG, hb0, hs0⟩
  refine (ofIr_any x.op W).mono ?_
  rintro e w1 ⟨lo, hi1, ex, k, rfl, hb1⟩
  have hs1 := hb1.size
  have hbl1 := hb0.trans (hb1.mono (by omega))
  have hG1 := hG.fresh hb1
  have g1 := hG1.cell 1 (v := .int .i64 x.a) rfl
  have g2 := hG1.cell 2 (v := .int .i64 x.b) rfl
  have g3 := hG1.cell 3 (v := .int .i64 x.c) rfl
  have lt1 : w.heap.size < w1.heap.size := by omega
  clear hG hG1
  obtain ⟨na, hna⟩ : ∃ na, Liv.asksN x.op = na := ⟨_, rfl⟩
  have hal : (Liv.asks x).length = na := by unfold Liv.asks; rw [hna, List.length_take]; simp; omega
  rw [hna] at hn ⊢
  cases hio : Liv.isOp x.op with
  | false =>
    have h0 : na = 0 := by rw [← hna]; exact Liv.asksN_no hio
    have hnil : Liv.asks x = [] := List.length_eq_zero_iff.1 (by omega)
    have HN := Lib.hid hnil; clear hnil hna hal hio
    go_wp2_with fail
    go_ret
    exact ⟨none, 0, by rw [HN.out]; rfl, by rw [HN.out]; exact Own.nil_, hbl1.alloc (by omega) _⟩
  | true =>
    have hq0 : (0 : Int) ≤ (na : Int) := by omega
    have hq1 : (na : Int) ≤ 3 := by omega
    have hat := (At.built (w1.alloc (.cells #[.int .i64 (na : Nat), .int .i64 lo, .int .i64 hi1, .bool k, .bool (Liv.tells x.op), .int .i64 ex] 172)) #[.int .i64 x.a, .int .i64 x.b, .int .i64 x.c] 175 [x.a, x.b, x.c] rfl (by obtain ⟨j0, j1, j2⟩ := HX.out; intro z hz; simp at hz; rcases hz with rfl | rfl | rfl <;> assumption)).take_ na
    have hta : [x.a, x.b, x.c].take na = Liv.asks x := by unfold Liv.asks; rw [hna]
    rw [hta] at hat
    have HA := Lib.hid (And.intro hat hal); clear hat hal hta hna hio
    go_wp2_with (at_builtin; go_must (refine wpList_app (α := Int) (n := 0) (m := na) (B := w1.heap.size + 1 + 1) (r := Liv.asks x) rfl (.const (.slice none 0 0)) (.tmp 23) _ rfl w.heap.size 3 i0 _ 8 Try.underlying40 hi hz0 hz1 hz2 rfl (by decide) int_one (by rfl) rfl Own.nil_ (by rfl) ?_ HA.out.2 (by omega) (by simp only [maxLen]; omega) (by simp; omega) ?_))
    · simpa using HA.out.1
    intro A3 c3 w3 hown3 hgr3 hat3
    have hbl3 : Below w.heap.size w w3 := ((hbl1.alloc (by omega) _).alloc (by simp; omega) _).grown hgr3 (by simp; omega) (by simp [rowOf])
    have hown3 : Own w3 w.heap.size 3 A3 c3 (Liv.asks x) := by simpa using hown3
    have H3 := Lib.hid hown3; clear hown3 hgr3 hat3
    go_wp2_with fail
    go_ret
    exact ⟨A3, c3, by simp [HA.out.2], H3.out, hbl3⟩

end Go.Proofs.Ytljdnadejmkaeaa
