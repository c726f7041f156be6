/- scan.Assign of what may not be; the law ScanTells, walked. -/
import Derived.Test.YtljdnadejmkaeaaScan11
import Derived.Test.YtljdnadejmkaeaaScan8
namespace Go.Proofs.Ytljdnadejmkaeaa
open Go.RowKit

attribute [local go_sem ↓] Go.wp_at_zero Go.wp_at_succ

set_option maxRecDepth 100000 in
theorem assign_large (N lc : Nat) (LA : Option Addr) (regs : Int) (w : World) (hN : 300 < N) :
    Calls Try.prog 36 #[.slice LA N lc, .int .i64 regs] w fun e w' => e = .returned (.tuple #[.slice none 0 0, .int .i64 0, .int .i64 2]) ∧ Below w.heap.size w w' := by
  have hd : decide ((300 : Int) < (N : Int)) = true := by simp; omega
  go_enter Try.func36, Try.ntmps36
  go_wp2_with fail
  go_returns
  exact ⟨rfl, (Below.refl _ _).alloc (Nat.le_refl _) _⟩

set_option maxRecDepth 100000 in
theorem assign_arg (N lc : Nat) (LA : Option Addr) (regs : Int) (w : World) (hN : N ≤ 300) (hr : regs < 0 ∨ 60 < regs) :
    Calls Try.prog 36 #[.slice LA N lc, .int .i64 regs] w fun e w' => e = .returned (.tuple #[.slice none 0 0, .int .i64 0, .int .i64 1]) ∧ Below w.heap.size w w' := by
  have hd : decide ((300 : Int) < (N : Int)) = false := by simp; omega
  by_cases h0 : regs < 0
  · have hd0 : decide (regs < 0) = true := by simpa using h0
    clear hr
    go_enter Try.func36, Try.ntmps36
    go_wp2_with fail
    go_returns
    exact ⟨rfl, (Below.refl _ _).alloc (Nat.le_refl _) _⟩
  · have hd0 : decide (regs < 0) = false := by simpa using h0
    have hd1 : decide (60 < regs) = true := by simp; omega
    clear hr
    go_enter Try.func36, Try.ntmps36
    go_wp2_with fail
    go_returns
    exact ⟨rfl, (Below.refl _ _).alloc (Nat.le_refl _) _⟩

set_option maxHeartbeats 1600000 in
set_option maxRecDepth 100000 in
theorem scanTells_any (B c : Nat) (A : Option Addr) (l : List (Int × Int)) (regs : Int) (w : World) (hl : At w B A l) (hB : B ≤ w.heap.size) (hll : l.length ≤ 9223372036854775807) (hreg : I64 regs) :
    Calls Try.prog 9 #[.slice A l.length c, .int .i64 regs] w fun e w' => e = .returned (.bool true) ∧ Below w.heap.size w w' := by
  have H := Lib.hid hl; clear hl
  go_enter Try.func9, Try.ntmps9
  go_wp2_with fail
  refine (scanned_any w).mono ?_
  rintro e w1 ⟨rfl, hb1⟩
  have hs1 := hb1.size
  have HL := Lib.hid (H.out.below (hb1.mono hB))
  by_cases h300 : 300 < l.length
  · have hd : decide ((300 : Int) < (l.length : Int)) = true := by simp; omega
    have hc := assign_large l.length c A regs w1 h300
    have HC := Lib.hid hc; clear hc
    go_wp2_with fail
    refine HC.out.mono ?_
    rintro e w2 ⟨rfl, hb2⟩
    go_wp2_with fail
    go_returns
    exact ⟨ret_bool (by simp), hb1.trans (hb2.mono hs1)⟩
  · have hd : decide ((300 : Int) < (l.length : Int)) = false := by simp; omega
    by_cases hr : regs < 0 ∨ 60 < regs
    · have hc := assign_arg l.length c A regs w1 (by omega) hr
      have HC := Lib.hid hc; clear hc
      by_cases h0 : regs < 0
      · have hd0 : decide (regs < 0) = true := by simpa using h0
        clear hr
        go_wp2_with fail
        refine HC.out.mono ?_
        rintro e w2 ⟨rfl, hb2⟩
        go_wp2_with fail
        go_returns
        exact ⟨ret_bool (by simp), hb1.trans (hb2.mono hs1)⟩
      · have hd0 : decide (regs < 0) = false := by simpa using h0
        have hd1 : decide (60 < regs) = true := by simp; omega
        clear hr
        go_wp2_with fail
        refine HC.out.mono ?_
        rintro e w2 ⟨rfl, hb2⟩
        go_wp2_with fail
        go_returns
        exact ⟨ret_bool (by simp), hb1.trans (hb2.mono hs1)⟩
    · have hd0 : decide (regs < 0) = false := by simp; omega
      have hd1 : decide (60 < regs) = false := by simp; omega
      have hc := assign_any B c A l regs w1 HL.out (by omega) (by omega) (by omega) (by omega)
      obtain ⟨res, hres⟩ : ∃ r, Scn.slotted l regs (Scn.byFrom l l.length) (Scn.byFrom l l.length).length = r := ⟨_, rfl⟩
      have hlen := Scn.slotted_length l regs (Scn.byFrom l l.length) (Scn.byFrom l l.length).length
      rw [hres] at hc hlen
      have hc2 := fun (h60 : l.length ≤ 60) (W : World) (hW : At W B A l) (hBW : B ≤ W.heap.size) => scannedR_any B c A l regs W hW hBW h60 (by omega) (by omega)
      rw [hres] at hc2
      have HC := Lib.hid (And.intro hc (And.intro hlen hc2)); clear hc hlen hc2 hres
      clear hr
      go_wp2_with fail
      refine HC.out.1.mono ?_
      rintro e w2 ⟨ga, ac, rfl, ho2, hok2, hb2⟩
      have hs2 := hb2.size
      have hb12 : Below w.heap.size w w2 := hb1.trans (hb2.mono hs1)
      have HO := Lib.hid (And.intro ho2 hok2); clear ho2 hok2
      by_cases h60 : 60 < l.length
      · have hd2 : decide ((60 : Int) < (l.length : Int)) = true := by simp; omega
        go_wp2_with fail
        go_returns
        exact ⟨ret_bool (by simp), hb12⟩
      · have hd2 : decide ((60 : Int) < (l.length : Int)) = false := by simp; omega
        have hc3 := HC.out.2.2 (by omega) w2 (HL.out.below (hb2.mono (by omega))) (by omega)
        have HC3 := Lib.hid hc3; clear hc3
        go_wp2_with fail
        refine HC3.out.mono ?_
        rintro e w3 ⟨A3, c3, rfl, ho3, hok3, hb3⟩
        have hs3 := hb3.size
        have hat3 := ho3.at_ hok3
        have hat2 := (HO.out.1.fresh hb3).at_ HO.out.2
        have heq := eqRPlace_any _ _ ac c3 w3.heap.size res.1 res.1 w3 hat2 hat3 (Nat.le_refl _) (by rw [HC.out.2.1]; omega) (by rw [HC.out.2.1]; omega)
        rw [HC.out.2.1] at heq
        have HE := Lib.hid heq; clear heq hat2 hat3 ho3 hok3
        go_wp2_with fail
        refine HE.out.mono ?_
        rintro e w4 ⟨rfl, hb4⟩
        go_wp2_with fail
        go_returns
        exact ⟨ret_bool (by simp), (hb12.trans (hb3.mono (by omega))).trans (hb4.mono (by omega))⟩

end Go.Proofs.Ytljdnadejmkaeaa
