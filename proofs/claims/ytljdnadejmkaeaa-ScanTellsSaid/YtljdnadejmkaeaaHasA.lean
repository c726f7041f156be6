/- R.Has at ints. -/
import Derived.Test.YtljdnadejmkaeaaCopyA
import Derived.Test.YtljdnadejmkaeaaT2
namespace Go.Proofs.Ytljdnadejmkaeaa
open Go.RowKit

theorem hasInt_n (A : Option Addr) (c B n : Nat) (l : List Int) (x : Int) (w : World) (hn : l.length = n) (h : At w B A l) (hl : n ≤ 9223372036854775807) :
    Calls Try.prog 57 #[.slice A n c, .int .i64 x] w fun e w' => e = .returned (.bool (decide (x ∈ l))) ∧ w = w' := by
  have H := Lib.hid h; clear h
  have HN := Lib.hid hn; clear hn
  go_enter Try.func57, Try.ntmps57
  go_wp2
  go_loop [9] (fun i => ∃ k : Nat, k ≤ n ∧ i = .int .i64 k ∧ Hid (x ∉ l.take k)) (fun i => n - (intOf i).toNat)
  case atStart => exact ⟨0, Nat.zero_le _, rfl, by simp [Hid]⟩
  case round =>
    obtain ⟨k, hk, rfl, hno⟩ := hrel
    by_cases hlt : k < n
    · obtain ⟨b, o, y, rfl, hb, hx, hok, h0⟩ := H.out.int_ (by have := HN.out; omega : k < l.length)
      have HX := Lib.hid hx; clear hx hok
      have hlt2 : (k : Int) < (n : Int) := by omega
      by_cases hxy : x = y
      · subst hxy
        go_wp2
        go_ret
        exact ⟨ret_bool (by rw [decide_eq_true (List.mem_of_getElem? HX.out)]), rfl⟩
      · have hxy2 : (x == y) = false := by simpa using hxy
        have HXY := Lib.hid hxy; clear hxy
        go_wp2
        go_round
        case rel => exact ⟨k + 1, by omega, by go_num, by unfold Hid; rw [take_snoc _ _ _ HX.out]; simp only [List.mem_append, List.mem_singleton, not_or]; exact ⟨hno.out, HXY.out⟩⟩
        case measure => simp [intOf]; omega
    · go_wp2
      go_ret
      exact ⟨ret_bool (by have := hno.out; rw [List.take_of_length_le (by have := HN.out; omega)] at this; simp [this]), rfl⟩

end Go.Proofs.Ytljdnadejmkaeaa
