/- RF: Live8. -/
import Derived.Test.YtljdnadejmkaeaaRF20
/- The reference's test of numbers: are they values of instructions ahead of a place? -/
namespace Go.Proofs.Ytljdnadejmkaeaa
open Go.RowKit

set_option maxHeartbeats 1600000 in
set_option maxRecDepth 100000 in
theorem rmay_any (B C ic lc n : Nat) (IA LA : Option Addr) (ins : List TI) (l : List Int) (at_ : Int) (v0 v1 v2 v4 v5 v6 v7 v8 v9 v10 v11 v12 : Value) (w : World) (hI : At w B IA ins) (hB : B ≤ w.heap.size) (hil : ins.length ≤ 9223372036854775807) (hat : at_ ≤ (ins.length : Int)) (hn : l.length = n) (hL : At w C LA l) (hC : C ≤ w.heap.size) (hl : n ≤ 9223372036854775807) :
    Calls Try.prog 61 #[.agg #[v0, v1, v2, .slice IA ins.length ic, v4, v5, v6, v7, v8, v9, v10, v11, v12], .slice LA n lc, .int .i64 at_] w fun e w' => e = .returned (.bool (!(l.any (Liv.bad ins at_)))) ∧ Below w.heap.size w w' := by
  have H := Lib.hid (And.intro hI (And.intro hL hn)); clear hI hL hn
  go_enter Try.func61, Try.ntmps61
  go_wp2_with fail
  refine wp_world (fun W => Blk W w.heap.size 72 #[v0, v1, v2, .slice IA ins.length ic, v4, v5, v6, v7, v8, v9, v10, v11, v12] ∧ Below w.heap.size w W ∧ w.heap.size + 1 ≤ W.heap.size) ⟨Blk.new _ _ _, (Below.refl _ _).alloc (Nat.le_refl _) _, by simp⟩ ?_
  rintro W ⟨hG, hb0, hs0⟩
  have HG := Lib.hid hG; clear hG
  go_loopg [11] (n) (fun gk iv wr => ∃ (k : Nat), k ≤ n ∧ gk = n - k ∧ iv = .int .i64 k ∧ Hid ((l.take k).any (Liv.bad ins at_) = false) ∧ Below (w.heap.size + 1) W wr ∧ w.heap.size + 1 ≤ wr.heap.size)
  case atStart => exact ⟨0, Nat.zero_le _, rfl, rfl, by simp [Hid], Below.refl _ _, hs0⟩
  case round =>
    obtain ⟨k, hk, rfl, rfl, hno, hbl, hsz⟩ := hrel
    have hbw : Below w.heap.size w wr := hb0.trans (hbl.mono (by omega))
    by_cases hlt : k < n
    · obtain ⟨b, o, v, rfl, hb, hx, hov, h0⟩ := (H.out.2.1.below (hbw.mono hC)).int_ (by have := H.out.2.2; omega : k < l.length)
      have hsn := any_snoc (Liv.bad ins at_) l k v hx
      rw [hno.out, Bool.false_or] at hsn
      have hbad : Liv.bad ins at_ v = true → l.any (Liv.bad ins at_) = true := fun h => List.any_eq_true.2 ⟨v, List.mem_of_getElem? hx, h⟩
      have HS := Lib.hid (And.intro hsn hbad); clear hsn hbad hx hno
      have hGr : Blk wr w.heap.size 72 #[v0, v1, v2, .slice IA ins.length ic, v4, v5, v6, v7, v8, v9, v10, v11, v12] := (hbl.block _ (by omega)).trans HG.out
      have c3 := hGr.cell 3 (v := .slice IA ins.length ic) rfl
      clear hGr
      have ltr : w.heap.size < wr.heap.size := by omega
      have hk0 : (0 : Int) ≤ (k : Int) := by omega
      have hk1 : (k : Int) < (n : Int) := by omega
      by_cases h1 : v < 0
      · have hq : l.any (Liv.bad ins at_) = true := HS.out.2 (by simp [Liv.bad, h1])
        have HQ := Lib.hid hq; clear hq
        go_wp2_with fail
        go_ret
        exact ⟨by rw [HQ.out]; rfl, hbw⟩
      · by_cases h2 : at_ ≤ v
        · have hq : l.any (Liv.bad ins at_) = true := HS.out.2 (by simp [Liv.bad, h2])
          have HQ := Lib.hid hq; clear hq
          go_wp2_with fail
          go_ret
          exact ⟨by rw [HQ.out]; rfl, hbw⟩
        · obtain ⟨j, rfl⟩ : ∃ j : Nat, v = (j : Int) := ⟨v.toNat, by omega⟩
          obtain ⟨b', o', x, rfl, hbB, hx, d0, -⟩ := (H.out.1.below (hbw.mono hB)).tI_ (by omega : j < ins.length)
          have hql : Liv.bad ins at_ (j : Int) = !(Liv.tells x.op) := by unfold Liv.bad; rw [Int.toNat_natCast, hx]; simp [h2]; intro h; exact absurd h h1
          have HQ := Lib.hid hql; clear hql hx
          have hj0 : (0 : Int) ≤ (j : Int) := by omega
          have hj1 : (j : Int) < (ins.length : Int) := by omega
          clear h1
          go_wp2_with fail
          refine (rTells_any x.op wr).mono ?_
          rintro e w1 ⟨rfl, hb1⟩
          have hs1 := hb1.size
          cases ht : Liv.tells x.op with
          | false =>
            rw [ht] at HQ
            have hq : l.any (Liv.bad ins at_) = true := HS.out.2 (by rw [HQ.out]; rfl)
            have HA := Lib.hid hq; clear hq ht
            go_wp2_with fail
            go_ret
            exact ⟨by rw [HA.out]; rfl, hbw.trans (hb1.mono (by omega))⟩
          | true =>
            rw [ht] at HQ
            clear ht
            go_wp2_with fail
            go_roundg (n - (k + 1))
            case measure => omega
            case rel => exact ⟨k + 1, by omega, rfl, by go_num, by unfold Hid; rw [HS.out.1, HQ.out]; rfl, hbl.trans (hb1.mono (by omega)), by omega⟩
    · have hq := hno.out
      rw [List.take_of_length_le (by have := H.out.2.2; omega)] at hq
      have HQ := Lib.hid hq; clear hq hno
      go_wp2_with fail
      go_ret
      exact ⟨by rw [HQ.out]; rfl, hbw⟩

end Go.Proofs.Ytljdnadejmkaeaa
