/- The reference's Unbox: what it computes is what nanbox.Unbox computes (plain). -/
import Derived.Test.YtpkccpegdpodoaaNan3
namespace Go.Proofs.Ytpkccpegdpodoaa
open Go.RowKit

def n48 (x : Int) : Int := if kindL x = 2 ∧ 2147483648 ≤ x % 281474976710656 then x % 281474976710656 - 4294967296 else x % 281474976710656
/-- the reference's value behind j of its six tags -/
def vk (x : Int) (j : Nat) : Int := if 65529 ≤ x / 281474976710656 ∧ x / 281474976710656 < 65529 + j then kindL x else 3
def vn (x : Int) (j : Nat) : Int := if 65529 ≤ x / 281474976710656 ∧ x / 281474976710656 < 65529 + j then n48 x else sgn64 x

theorem unb_ref (x : Int) (hx : 0 ≤ x ∧ x ≤ 18446744073709551615) : unbL x = if boxL (vk x 6) (vn x 6) = (x, 0) then some (vk x 6, vn x 6) else none := by
  by_cases ht : x / 281474976710656 < 65529 ∨ 65534 < x / 281474976710656
  · have h1 : vk x 6 = 3 := by unfold vk; rw [if_neg (by omega)]
    have h2 : vn x 6 = sgn64 x := by unfold vn; rw [if_neg (by omega)]
    have h3 : sgn64 x % 18446744073709551616 = x := by unfold sgn64; omega
    have hb : boxL 3 (sgn64 x) = if spo x = true then (9221120237041090561, 0) else (x, 0) := by unfold boxL; rw [if_neg (by omega), if_pos rfl, h3]
    rw [h1, h2, hb]
    unfold unbL
    rw [if_pos ht]
    by_cases hs : spo x = true
    · by_cases ho : x = 9221120237041090561
      · rw [if_neg (by simp [ho]), if_pos hs, if_pos (by rw [ho])]
      · rw [if_pos ⟨hs, ho⟩, if_pos hs, if_neg (by simp; exact fun h => ho h.symm)]
    · rw [if_neg (by simp [hs]), if_neg hs, if_pos rfl]
  · have h1 : vk x 6 = kindL x := by unfold vk; rw [if_pos (by omega)]
    have h2 : vn x 6 = n48 x := by unfold vn; rw [if_pos (by omega)]
    rw [h1, h2]
    have hk : 0 ≤ kindL x ∧ kindL x ≤ 6 ∧ kindL x ≠ 3 := by unfold kindL; split <;> omega
    have htg : tagL (kindL x) = x / 281474976710656 := by unfold tagL kindL; split <;> split <;> omega
    have hlh : lowk (kindL x) = (if kindL x = 2 then -2147483648 else 0) := rfl
    have hhh : highk (kindL x) ≤ 4294967295 := by unfold highk; split <;> (try split) <;> (try split) <;> omega
    unfold unbL
    rw [if_neg ht]
    by_cases hb : x % 281474976710656 < 4294967296
    · have : numL x = n48 x := by
        unfold numL n48 sgn32
        by_cases h2 : kindL x = 2
        · rw [if_pos h2]
          by_cases h3 : 2147483648 ≤ x % 281474976710656
          · rw [if_pos ⟨h2, h3⟩]; omega
          · rw [if_neg (by omega)]; omega
        · rw [if_neg h2, if_neg (by omega)]; omega
      rw [this]
    · have key : ∀ n : Int, boxL (kindL x) n ≠ (x, 0) := by
        intro n
        unfold boxL
        rw [if_neg (by omega), if_neg hk.2.2]
        split
        · simp
        · rw [htg]
          intro h
          injection h with h _
          omega
      rw [if_neg (key _), if_neg (key _)]

end Go.Proofs.Ytpkccpegdpodoaa
