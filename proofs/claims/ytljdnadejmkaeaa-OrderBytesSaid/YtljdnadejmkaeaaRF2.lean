/- RF: T1. -/
import Derived.Test.YtljdnadejmkaeaaRF1
import Derived.Test.YtljdnadejmkaeaaRows
import Derived.BigQuiet
import Derived.Deep.QuietTactic
/- Whether numbers are those of values (valuesIn): its contract, for every list of ints. -/
namespace Go.Proofs.Ytljdnadejmkaeaa
open Go.RowKit

theorem all_snoc {α : Type} (p : α → Bool) (l : List α) (k : Nat) (x : α) (h : l[k]? = some x) : (l.take (k + 1)).all p = ((l.take k).all p && p x) := by
  rw [List.take_add_one, h]; simp [List.all_append]
theorem all_stop {α : Type} (p : α → Bool) (l : List α) (k : Nat) (x : α) (h : l[k]? = some x) (hp : p x = false) : l.all p = false := by
  rw [List.all_eq_false]; exact ⟨x, List.mem_of_getElem? h, by simp [hp]⟩
theorem At.int_ {w : World} {B : Nat} {A : Option Addr} {l : List Int} {k : Nat} (h : At w B A l) (hk : k < l.length) :
    ∃ b o x, A = some ⟨b, o, none⟩ ∧ b < B ∧ l[k]? = some x ∧ I64 x ∧ w.cell? ⟨b, o + k, none⟩ = some (.int .i64 x) := by
  obtain ⟨x, hx⟩ : ∃ x, l[k]? = some x := ⟨l[k], List.getElem?_eq_getElem hk⟩
  obtain ⟨b, o, cs, rfl, hb, hc, rfl, hok⟩ := h k x hx
  have h0 := hc 0 _ rfl
  simp only [Flat.sz, Enc.sz, Nat.mul_one, Nat.add_zero] at h0
  exact ⟨b, o, x, rfl, hb, hx, hok, h0⟩

theorem ret_bool {a b : Bool} (h : a = b) : Ending.returned (.bool a) = .returned (.bool b) := by rw [h]

set_option maxHeartbeats 400000 in
theorem valuesIn_any (A : Option Addr) (c B : Nat) (l : List Int) (many : Int) (w : World) (h : At w B A l) (hl : l.length ≤ 9223372036854775807) :
    Calls Try.prog 15 #[.slice A l.length c, .int .i64 many] w fun e w' => e = .returned (.bool (l.all fun v => decide (0 ≤ v) && decide (v < many))) ∧ w = w' := by
  have H := Lib.hid h; clear h
  go_enter Try.func15, Try.ntmps15
  go_wp2
  go_loop [9] (fun i => ∃ k : Nat, k ≤ l.length ∧ i = .int .i64 k ∧ Hid ((l.take k).all (fun v => decide (0 ≤ v) && decide (v < many)) = true)) (fun i => l.length - (intOf i).toNat)
  case atStart => exact ⟨0, Nat.zero_le _, rfl, by simp [Hid]⟩
  case round =>
    obtain ⟨k, hk, rfl, hall⟩ := hrel
    by_cases hlt : k < l.length
    · obtain ⟨b, o, x, rfl, hb, hx, hok, h0⟩ := H.out.int_ hlt
      have HX := Lib.hid hx; clear hx hok
      go_wp2
      · go_ret
        exact ⟨ret_bool (by rw [all_stop _ l k x HX.out]; simp; omega), rfl⟩
      · go_round
        case rel => exact ⟨k + 1, by omega, by go_num, by unfold Hid; rw [all_snoc _ l k x HX.out, hall.out]; simp; omega⟩
        case measure => simp [intOf]; omega
      · go_ret
        exact ⟨ret_bool (by rw [all_stop _ l k x HX.out]; simp; omega), rfl⟩
    · go_wp2
      go_ret
      exact ⟨ret_bool (by have := hall.out; rw [List.take_of_length_le (by omega)] at this; rw [this]), rfl⟩

end Go.Proofs.Ytljdnadejmkaeaa
