/- RF: T2. -/
import Derived.Test.YtljdnadejmkaeaaRF1
import Derived.Test.YtljdnadejmkaeaaRF2
/- The reference equality of two lists, at five types of two ints: it answers whether the lists are one. -/
namespace Go.Proofs.Ytljdnadejmkaeaa
open Go.RowKit

theorem At.pair {w : World} {B : Nat} {A : Option Addr} {l : List (Int × Int)} {k : Nat} (h : At w B A l) (hk : k < l.length) :
    ∃ b o x y, A = some ⟨b, o, none⟩ ∧ b < B ∧ l[k]? = some (x, y) ∧ I64 x ∧ I64 y ∧ w.cell? ⟨b, o + k * 2, none⟩ = some (.int .i64 x) ∧ w.cell? ⟨b, o + k * 2 + 1, none⟩ = some (.int .i64 y) := by
  obtain ⟨x, hx⟩ : ∃ x, l[k]? = some x := ⟨l[k], List.getElem?_eq_getElem hk⟩
  obtain ⟨b, o, cs, rfl, hb, hc, rfl, hok⟩ := h k x hx
  exact ⟨b, o, x.1, x.2, rfl, hb, hx, hok.1, hok.2, hc 0 _ rfl, hc 1 _ rfl⟩

theorem take_snoc {α : Type} (l : List α) (k : Nat) (x : α) (h : l[k]? = some x) : l.take (k + 1) = l.take k ++ [x] := by
  rw [List.take_add_one, h]; rfl

theorem ne_of_at {α : Type} {l r : List α} {k : Nat} {x y : α} (h : l[k]? = some x) (h' : r[k]? = some y) (hne : x ≠ y) : l ≠ r := by
  rintro rfl; rw [h] at h'; exact hne (Option.some.inj h')

theorem neqVal (x y x' y' : Int) (w : World) : (binOp .neq 23 (.agg #[.int .i64 x, .int .i64 y]) (.agg #[.int .i64 x', .int .i64 y'])).run Try.prog w = .ok (.bool (!decide ((x, y) = (x', y')))) w := by
  have u3 := Try.underlying3
  have a3 := Try.isAgg3
  have z3 := Try.sizeOf3
  have hS : Try.prog.underlying 23 = some (.struct (Try.prog.fieldsOf 23)) := by kernel_rfl
  have hp : Try.prog.stoodInHeld 23 = false := by kernel_rfl
  rw [run_neq_struct, show (10000 : Nat) = 9999 + 1 from rfl, run_equalIn_agg w 9999 23 _ _ hS hp]
  simp only [Program.fieldsOf, Try.underlying23]
  go_simp
  by_cases h1 : x = x' <;> by_cases h2 : y = y' <;> simp [h1, h2]

set_option maxHeartbeats 400000 in
theorem eqVal_any (A A' : Option Addr) (c c' B : Nat) (l r : List (Int × Int)) (w : World) (h : At w B A l) (h' : At w B A' r) (hB : B ≤ w.heap.size) (hl : l.length ≤ 9223372036854775807) (hr : r.length ≤ 9223372036854775807) :
    Calls Try.prog 16 #[.slice A l.length c, .slice A' r.length c'] w fun e w' => e = .returned (.bool (decide (l = r))) ∧ Below w.heap.size w w' := by
  have H := Lib.hid h; clear h
  have H' := Lib.hid h'; clear h'
  by_cases hn : l.length = r.length
  · have hn' : ((l.length : Int) != (r.length : Int)) = false := by simp; omega
    have HN := Lib.hid hn; clear hn
    go_enter Try.func16, Try.ntmps16
    go_wp2
    go_loopw [14] (fun i wr => ∃ k : Nat, k ≤ l.length ∧ i = .int .i64 k ∧ Hid (l.take k = r.take k) ∧ Below w.heap.size w wr) (fun i _ => l.length - (intOf i).toNat)
    case atStart => exact ⟨0, Nat.zero_le _, rfl, by simp [Hid], Below.refl _ _⟩
    case round =>
      obtain ⟨k, hk, rfl, heq, hbl⟩ := hrel
      have hsz := hbl.size
      by_cases hlt : k < l.length
      · obtain ⟨b, o, x, y, rfl, hb, hx, -, -, h0, h1⟩ := (H.out.below (hbl.mono hB)).pair hlt
        obtain ⟨b', o', x', y', rfl, hb', hx', -, -, h0', h1'⟩ := (H'.out.below (hbl.mono hB)).pair (by have := HN.out; omega : k < r.length)
        have HX := Lib.hid hx; clear hx
        have HX' := Lib.hid hx'; clear hx'
        have hbw : b' < wr.heap.size := by omega
        have hk0 : (0 : Int) ≤ (k : Int) := by omega
        have hk1 : (k : Int) < (r.length : Int) := by have := HN.out; omega
        have hbl2 := hbl.alloc hsz (.cells #[.int .i64 x, .int .i64 y] 23)
        by_cases hxy : (x, y) = (x', y')
        · obtain ⟨rfl, rfl⟩ := Prod.mk.injEq .. ▸ hxy
          have hne := fun w => (neqVal x y x y w).trans (by simp : _ = Result.ok (.bool false) w)
          go_wp2
          go_quiet (fail)
          go_wp2
          go_roundw
          case rel => exact ⟨k + 1, by omega, by go_num, by unfold Hid; rw [take_snoc _ _ _ HX.out, take_snoc _ _ _ HX'.out, heq.out], below_drewN hbl2 _⟩
          case measure => simp [intOf]; omega
        · have hne := fun w => (neqVal x y x' y' w).trans (by rw [decide_eq_false hxy]; rfl : _ = Result.ok (.bool true) w)
          have HXY := Lib.hid hxy; clear hxy
          go_wp2
          go_quiet (fail)
          go_wp2
          go_ret
          exact ⟨ret_bool (by simp [ne_of_at HX.out HX'.out HXY.out]), below_drewN hbl2 _⟩
      · go_wp2
        go_ret
        exact ⟨ret_bool (by have h1 := heq.out; have h2 := HN.out; rw [List.take_of_length_le (by omega), List.take_of_length_le (by omega)] at h1; simp [h1]), hbl⟩
  · have hn' : ((l.length : Int) != (r.length : Int)) = true := by simp; omega
    have HN := Lib.hid hn; clear hn
    go_enter Try.func16, Try.ntmps16
    go_wp2
    go_ret
    exact ⟨ret_bool (by have := HN.out; simp; rintro rfl; exact this rfl), Below.refl _ _⟩

theorem neqTry (x y x' y' : Int) (w : World) : (binOp .neq 44 (.agg #[.int .i64 x, .int .i64 y]) (.agg #[.int .i64 x', .int .i64 y'])).run Try.prog w = .ok (.bool (!decide ((x, y) = (x', y')))) w := by
  have u3 := Try.underlying3
  have a3 := Try.isAgg3
  have z3 := Try.sizeOf3
  have hS : Try.prog.underlying 44 = some (.struct (Try.prog.fieldsOf 44)) := by kernel_rfl
  have hp : Try.prog.stoodInHeld 44 = false := by kernel_rfl
  rw [run_neq_struct, show (10000 : Nat) = 9999 + 1 from rfl, run_equalIn_agg w 9999 44 _ _ hS hp]
  simp only [Program.fieldsOf, Try.underlying44]
  go_simp
  by_cases h1 : x = x' <;> by_cases h2 : y = y' <;> simp [h1, h2]

set_option maxHeartbeats 400000 in
theorem eqTry_any (A A' : Option Addr) (c c' B : Nat) (l r : List (Int × Int)) (w : World) (h : At w B A l) (h' : At w B A' r) (hB : B ≤ w.heap.size) (hl : l.length ≤ 9223372036854775807) (hr : r.length ≤ 9223372036854775807) :
    Calls Try.prog 17 #[.slice A l.length c, .slice A' r.length c'] w fun e w' => e = .returned (.bool (decide (l = r))) ∧ Below w.heap.size w w' := by
  have H := Lib.hid h; clear h
  have H' := Lib.hid h'; clear h'
  by_cases hn : l.length = r.length
  · have hn' : ((l.length : Int) != (r.length : Int)) = false := by simp; omega
    have HN := Lib.hid hn; clear hn
    go_enter Try.func17, Try.ntmps17
    go_wp2
    go_loopw [14] (fun i wr => ∃ k : Nat, k ≤ l.length ∧ i = .int .i64 k ∧ Hid (l.take k = r.take k) ∧ Below w.heap.size w wr) (fun i _ => l.length - (intOf i).toNat)
    case atStart => exact ⟨0, Nat.zero_le _, rfl, by simp [Hid], Below.refl _ _⟩
    case round =>
      obtain ⟨k, hk, rfl, heq, hbl⟩ := hrel
      have hsz := hbl.size
      by_cases hlt : k < l.length
      · obtain ⟨b, o, x, y, rfl, hb, hx, -, -, h0, h1⟩ := (H.out.below (hbl.mono hB)).pair hlt
        obtain ⟨b', o', x', y', rfl, hb', hx', -, -, h0', h1'⟩ := (H'.out.below (hbl.mono hB)).pair (by have := HN.out; omega : k < r.length)
        have HX := Lib.hid hx; clear hx
        have HX' := Lib.hid hx'; clear hx'
        have hbw : b' < wr.heap.size := by omega
        have hk0 : (0 : Int) ≤ (k : Int) := by omega
        have hk1 : (k : Int) < (r.length : Int) := by have := HN.out; omega
        have hbl2 := hbl.alloc hsz (.cells #[.int .i64 x, .int .i64 y] 44)
        by_cases hxy : (x, y) = (x', y')
        · obtain ⟨rfl, rfl⟩ := Prod.mk.injEq .. ▸ hxy
          have hne := fun w => (neqTry x y x y w).trans (by simp : _ = Result.ok (.bool false) w)
          go_wp2
          go_quiet (fail)
          go_wp2
          go_roundw
          case rel => exact ⟨k + 1, by omega, by go_num, by unfold Hid; rw [take_snoc _ _ _ HX.out, take_snoc _ _ _ HX'.out, heq.out], below_drewN hbl2 _⟩
          case measure => simp [intOf]; omega
        · have hne := fun w => (neqTry x y x' y' w).trans (by rw [decide_eq_false hxy]; rfl : _ = Result.ok (.bool true) w)
          have HXY := Lib.hid hxy; clear hxy
          go_wp2
          go_quiet (fail)
          go_wp2
          go_ret
          exact ⟨ret_bool (by simp [ne_of_at HX.out HX'.out HXY.out]), below_drewN hbl2 _⟩
      · go_wp2
        go_ret
        exact ⟨ret_bool (by have h1 := heq.out; have h2 := HN.out; rw [List.take_of_length_le (by omega), List.take_of_length_le (by omega)] at h1; simp [h1]), hbl⟩
  · have hn' : ((l.length : Int) != (r.length : Int)) = true := by simp; omega
    have HN := Lib.hid hn; clear hn
    go_enter Try.func17, Try.ntmps17
    go_wp2
    go_ret
    exact ⟨ret_bool (by have := HN.out; simp; rintro rfl; exact this rfl), Below.refl _ _⟩

theorem neqRMove (x y x' y' : Int) (w : World) : (binOp .neq 62 (.agg #[.int .i64 x, .int .i64 y]) (.agg #[.int .i64 x', .int .i64 y'])).run Try.prog w = .ok (.bool (!decide ((x, y) = (x', y')))) w := by
  have u3 := Try.underlying3
  have a3 := Try.isAgg3
  have z3 := Try.sizeOf3
  have hS : Try.prog.underlying 62 = some (.struct (Try.prog.fieldsOf 62)) := by kernel_rfl
  have hp : Try.prog.stoodInHeld 62 = false := by kernel_rfl
  rw [run_neq_struct, show (10000 : Nat) = 9999 + 1 from rfl, run_equalIn_agg w 9999 62 _ _ hS hp]
  simp only [Program.fieldsOf, Try.underlying62]
  go_simp
  by_cases h1 : x = x' <;> by_cases h2 : y = y' <;> simp [h1, h2]

set_option maxHeartbeats 400000 in
theorem eqRMove_any (A A' : Option Addr) (c c' B : Nat) (l r : List (Int × Int)) (w : World) (h : At w B A l) (h' : At w B A' r) (hB : B ≤ w.heap.size) (hl : l.length ≤ 9223372036854775807) (hr : r.length ≤ 9223372036854775807) :
    Calls Try.prog 23 #[.slice A l.length c, .slice A' r.length c'] w fun e w' => e = .returned (.bool (decide (l = r))) ∧ Below w.heap.size w w' := by
  have H := Lib.hid h; clear h
  have H' := Lib.hid h'; clear h'
  by_cases hn : l.length = r.length
  · have hn' : ((l.length : Int) != (r.length : Int)) = false := by simp; omega
    have HN := Lib.hid hn; clear hn
    go_enter Try.func23, Try.ntmps23
    go_wp2
    go_loopw [14] (fun i wr => ∃ k : Nat, k ≤ l.length ∧ i = .int .i64 k ∧ Hid (l.take k = r.take k) ∧ Below w.heap.size w wr) (fun i _ => l.length - (intOf i).toNat)
    case atStart => exact ⟨0, Nat.zero_le _, rfl, by simp [Hid], Below.refl _ _⟩
    case round =>
      obtain ⟨k, hk, rfl, heq, hbl⟩ := hrel
      have hsz := hbl.size
      by_cases hlt : k < l.length
      · obtain ⟨b, o, x, y, rfl, hb, hx, -, -, h0, h1⟩ := (H.out.below (hbl.mono hB)).pair hlt
        obtain ⟨b', o', x', y', rfl, hb', hx', -, -, h0', h1'⟩ := (H'.out.below (hbl.mono hB)).pair (by have := HN.out; omega : k < r.length)
        have HX := Lib.hid hx; clear hx
        have HX' := Lib.hid hx'; clear hx'
        have hbw : b' < wr.heap.size := by omega
        have hk0 : (0 : Int) ≤ (k : Int) := by omega
        have hk1 : (k : Int) < (r.length : Int) := by have := HN.out; omega
        have hbl2 := hbl.alloc hsz (.cells #[.int .i64 x, .int .i64 y] 62)
        by_cases hxy : (x, y) = (x', y')
        · obtain ⟨rfl, rfl⟩ := Prod.mk.injEq .. ▸ hxy
          have hne := fun w => (neqRMove x y x y w).trans (by simp : _ = Result.ok (.bool false) w)
          go_wp2
          go_quiet (fail)
          go_wp2
          go_roundw
          case rel => exact ⟨k + 1, by omega, by go_num, by unfold Hid; rw [take_snoc _ _ _ HX.out, take_snoc _ _ _ HX'.out, heq.out], below_drewN hbl2 _⟩
          case measure => simp [intOf]; omega
        · have hne := fun w => (neqRMove x y x' y' w).trans (by rw [decide_eq_false hxy]; rfl : _ = Result.ok (.bool true) w)
          have HXY := Lib.hid hxy; clear hxy
          go_wp2
          go_quiet (fail)
          go_wp2
          go_ret
          exact ⟨ret_bool (by simp [ne_of_at HX.out HX'.out HXY.out]), below_drewN hbl2 _⟩
      · go_wp2
        go_ret
        exact ⟨ret_bool (by have h1 := heq.out; have h2 := HN.out; rw [List.take_of_length_le (by omega), List.take_of_length_le (by omega)] at h1; simp [h1]), hbl⟩
  · have hn' : ((l.length : Int) != (r.length : Int)) = true := by simp; omega
    have HN := Lib.hid hn; clear hn
    go_enter Try.func23, Try.ntmps23
    go_wp2
    go_ret
    exact ⟨ret_bool (by have := HN.out; simp; rintro rfl; exact this rfl), Below.refl _ _⟩

theorem neqRSpan (x y x' y' : Int) (w : World) : (binOp .neq 78 (.agg #[.int .i64 x, .int .i64 y]) (.agg #[.int .i64 x', .int .i64 y'])).run Try.prog w = .ok (.bool (!decide ((x, y) = (x', y')))) w := by
  have u3 := Try.underlying3
  have a3 := Try.isAgg3
  have z3 := Try.sizeOf3
  have hS : Try.prog.underlying 78 = some (.struct (Try.prog.fieldsOf 78)) := by kernel_rfl
  have hp : Try.prog.stoodInHeld 78 = false := by kernel_rfl
  rw [run_neq_struct, show (10000 : Nat) = 9999 + 1 from rfl, run_equalIn_agg w 9999 78 _ _ hS hp]
  simp only [Program.fieldsOf, Try.underlying78]
  go_simp
  by_cases h1 : x = x' <;> by_cases h2 : y = y' <;> simp [h1, h2]

set_option maxHeartbeats 400000 in
theorem eqRSpan_any (A A' : Option Addr) (c c' B : Nat) (l r : List (Int × Int)) (w : World) (h : At w B A l) (h' : At w B A' r) (hB : B ≤ w.heap.size) (hl : l.length ≤ 9223372036854775807) (hr : r.length ≤ 9223372036854775807) :
    Calls Try.prog 60 #[.slice A l.length c, .slice A' r.length c'] w fun e w' => e = .returned (.bool (decide (l = r))) ∧ Below w.heap.size w w' := by
  have H := Lib.hid h; clear h
  have H' := Lib.hid h'; clear h'
  by_cases hn : l.length = r.length
  · have hn' : ((l.length : Int) != (r.length : Int)) = false := by simp; omega
    have HN := Lib.hid hn; clear hn
    go_enter Try.func60, Try.ntmps60
    go_wp2
    go_loopw [14] (fun i wr => ∃ k : Nat, k ≤ l.length ∧ i = .int .i64 k ∧ Hid (l.take k = r.take k) ∧ Below w.heap.size w wr) (fun i _ => l.length - (intOf i).toNat)
    case atStart => exact ⟨0, Nat.zero_le _, rfl, by simp [Hid], Below.refl _ _⟩
    case round =>
      obtain ⟨k, hk, rfl, heq, hbl⟩ := hrel
      have hsz := hbl.size
      by_cases hlt : k < l.length
      · obtain ⟨b, o, x, y, rfl, hb, hx, -, -, h0, h1⟩ := (H.out.below (hbl.mono hB)).pair hlt
        obtain ⟨b', o', x', y', rfl, hb', hx', -, -, h0', h1'⟩ := (H'.out.below (hbl.mono hB)).pair (by have := HN.out; omega : k < r.length)
        have HX := Lib.hid hx; clear hx
        have HX' := Lib.hid hx'; clear hx'
        have hbw : b' < wr.heap.size := by omega
        have hk0 : (0 : Int) ≤ (k : Int) := by omega
        have hk1 : (k : Int) < (r.length : Int) := by have := HN.out; omega
        have hbl2 := hbl.alloc hsz (.cells #[.int .i64 x, .int .i64 y] 78)
        by_cases hxy : (x, y) = (x', y')
        · obtain ⟨rfl, rfl⟩ := Prod.mk.injEq .. ▸ hxy
          have hne := fun w => (neqRSpan x y x y w).trans (by simp : _ = Result.ok (.bool false) w)
          go_wp2
          go_quiet (fail)
          go_wp2
          go_roundw
          case rel => exact ⟨k + 1, by omega, by go_num, by unfold Hid; rw [take_snoc _ _ _ HX.out, take_snoc _ _ _ HX'.out, heq.out], below_drewN hbl2 _⟩
          case measure => simp [intOf]; omega
        · have hne := fun w => (neqRSpan x y x' y' w).trans (by rw [decide_eq_false hxy]; rfl : _ = Result.ok (.bool true) w)
          have HXY := Lib.hid hxy; clear hxy
          go_wp2
          go_quiet (fail)
          go_wp2
          go_ret
          exact ⟨ret_bool (by simp [ne_of_at HX.out HX'.out HXY.out]), below_drewN hbl2 _⟩
      · go_wp2
        go_ret
        exact ⟨ret_bool (by have h1 := heq.out; have h2 := HN.out; rw [List.take_of_length_le (by omega), List.take_of_length_le (by omega)] at h1; simp [h1]), hbl⟩
  · have hn' : ((l.length : Int) != (r.length : Int)) = true := by simp; omega
    have HN := Lib.hid hn; clear hn
    go_enter Try.func60, Try.ntmps60
    go_wp2
    go_ret
    exact ⟨ret_bool (by have := HN.out; simp; rintro rfl; exact this rfl), Below.refl _ _⟩

theorem neqRPlace (x y x' y' : Int) (w : World) : (binOp .neq 90 (.agg #[.int .i64 x, .int .i64 y]) (.agg #[.int .i64 x', .int .i64 y'])).run Try.prog w = .ok (.bool (!decide ((x, y) = (x', y')))) w := by
  have u3 := Try.underlying3
  have a3 := Try.isAgg3
  have z3 := Try.sizeOf3
  have hS : Try.prog.underlying 90 = some (.struct (Try.prog.fieldsOf 90)) := by kernel_rfl
  have hp : Try.prog.stoodInHeld 90 = false := by kernel_rfl
  rw [run_neq_struct, show (10000 : Nat) = 9999 + 1 from rfl, run_equalIn_agg w 9999 90 _ _ hS hp]
  simp only [Program.fieldsOf, Try.underlying90]
  go_simp
  by_cases h1 : x = x' <;> by_cases h2 : y = y' <;> simp [h1, h2]

set_option maxHeartbeats 400000 in
theorem eqRPlace_any (A A' : Option Addr) (c c' B : Nat) (l r : List (Int × Int)) (w : World) (h : At w B A l) (h' : At w B A' r) (hB : B ≤ w.heap.size) (hl : l.length ≤ 9223372036854775807) (hr : r.length ≤ 9223372036854775807) :
    Calls Try.prog 38 #[.slice A l.length c, .slice A' r.length c'] w fun e w' => e = .returned (.bool (decide (l = r))) ∧ Below w.heap.size w w' := by
  have H := Lib.hid h; clear h
  have H' := Lib.hid h'; clear h'
  by_cases hn : l.length = r.length
  · have hn' : ((l.length : Int) != (r.length : Int)) = false := by simp; omega
    have HN := Lib.hid hn; clear hn
    go_enter Try.func38, Try.ntmps38
    go_wp2
    go_loopw [14] (fun i wr => ∃ k : Nat, k ≤ l.length ∧ i = .int .i64 k ∧ Hid (l.take k = r.take k) ∧ Below w.heap.size w wr) (fun i _ => l.length - (intOf i).toNat)
    case atStart => exact ⟨0, Nat.zero_le _, rfl, by simp [Hid], Below.refl _ _⟩
    case round =>
      obtain ⟨k, hk, rfl, heq, hbl⟩ := hrel
      have hsz := hbl.size
      by_cases hlt : k < l.length
      · obtain ⟨b, o, x, y, rfl, hb, hx, -, -, h0, h1⟩ := (H.out.below (hbl.mono hB)).pair hlt
        obtain ⟨b', o', x', y', rfl, hb', hx', -, -, h0', h1'⟩ := (H'.out.below (hbl.mono hB)).pair (by have := HN.out; omega : k < r.length)
        have HX := Lib.hid hx; clear hx
        have HX' := Lib.hid hx'; clear hx'
        have hbw : b' < wr.heap.size := by omega
        have hk0 : (0 : Int) ≤ (k : Int) := by omega
        have hk1 : (k : Int) < (r.length : Int) := by have := HN.out; omega
        have hbl2 := hbl.alloc hsz (.cells #[.int .i64 x, .int .i64 y] 90)
        by_cases hxy : (x, y) = (x', y')
        · obtain ⟨rfl, rfl⟩ := Prod.mk.injEq .. ▸ hxy
          have hne := fun w => (neqRPlace x y x y w).trans (by simp : _ = Result.ok (.bool false) w)
          go_wp2
          go_quiet (fail)
          go_wp2
          go_roundw
          case rel => exact ⟨k + 1, by omega, by go_num, by unfold Hid; rw [take_snoc _ _ _ HX.out, take_snoc _ _ _ HX'.out, heq.out], below_drewN hbl2 _⟩
          case measure => simp [intOf]; omega
        · have hne := fun w => (neqRPlace x y x' y' w).trans (by rw [decide_eq_false hxy]; rfl : _ = Result.ok (.bool true) w)
          have HXY := Lib.hid hxy; clear hxy
          go_wp2
          go_quiet (fail)
          go_wp2
          go_ret
          exact ⟨ret_bool (by simp [ne_of_at HX.out HX'.out HXY.out]), below_drewN hbl2 _⟩
      · go_wp2
        go_ret
        exact ⟨ret_bool (by have h1 := heq.out; have h2 := HN.out; rw [List.take_of_length_le (by omega), List.take_of_length_le (by omega)] at h1; simp [h1]), hbl⟩
  · have hn' : ((l.length : Int) != (r.length : Int)) = true := by simp; omega
    have HN := Lib.hid hn; clear hn
    go_enter Try.func38, Try.ntmps38
    go_wp2
    go_ret
    exact ⟨ret_bool (by have := HN.out; simp; rintro rfl; exact this rfl), Below.refl _ _⟩

end Go.Proofs.Ytljdnadejmkaeaa
