/- Lists of words, numbers, moves, compared. -/
import Derived.Test.YtpkccpegdpodoaaHaul12
import Derived.Shelf.GgClosure.Gives
namespace Go.Proofs.Ytpkccpegdpodoaa
open Go.RowKit

attribute [local go_sem ↓] Go.wp_at_zero Go.wp_at_succ

theorem ret_boolH {a b : Bool} (h : a = b) : Ending.returned (.bool a) = .returned (.bool b) := by rw [h]
theorem ne_of_atH {α : Type} {l r : List α} {k : Nat} {x y : α} (h : l[k]? = some x) (h' : r[k]? = some y) (hne : x ≠ y) : l ≠ r := by
  rintro rfl; rw [h] at h'; exact hne (Option.some.inj h')
theorem At.u64E {w : World} {B : Nat} {A : Option Addr} {l : List U64} {k : Nat} (h : At w B A l) (hk : k < l.length) :
    ∃ b o x, A = some ⟨b, o, none⟩ ∧ b < B ∧ l[k]? = some ⟨x⟩ ∧ w.cell? ⟨b, o + k, none⟩ = some (.int .u64 x) := by
  obtain ⟨x, hx⟩ : ∃ x, l[k]? = some x := ⟨l[k], List.getElem?_eq_getElem hk⟩
  obtain ⟨b, o, cs, rfl, hb, hc, rfl, hok⟩ := h k x hx
  have h0 := hc 0 _ rfl
  simp only [Flat.sz, Enc.sz, Nat.mul_one, Nat.add_zero] at h0
  exact ⟨b, o, x.val, rfl, hb, hx, h0⟩
theorem At.intE {w : World} {B : Nat} {A : Option Addr} {l : List Int} {k : Nat} (h : At w B A l) (hk : k < l.length) :
    ∃ b o x, A = some ⟨b, o, none⟩ ∧ b < B ∧ l[k]? = some x ∧ True ∧ w.cell? ⟨b, o + k, none⟩ = some (.int .i64 x) := by
  obtain ⟨x, hx⟩ : ∃ x, l[k]? = some x := ⟨l[k], List.getElem?_eq_getElem hk⟩
  obtain ⟨b, o, cs, rfl, hb, hc, rfl, hok⟩ := h k x hx
  have h0 := hc 0 _ rfl
  simp only [Flat.sz, Enc.sz, Nat.mul_one, Nat.add_zero] at h0
  exact ⟨b, o, x, rfl, hb, hx, trivial, h0⟩
theorem At.pairE {w : World} {B : Nat} {A : Option Addr} {l : List (Int × Int)} {k : Nat} (h : At w B A l) (hk : k < l.length) :
    ∃ b o x y, A = some ⟨b, o, none⟩ ∧ b < B ∧ l[k]? = some (x, y) ∧ True ∧ True ∧ w.cell? ⟨b, o + k * 2, none⟩ = some (.int .i64 x) ∧ w.cell? ⟨b, o + k * 2 + 1, none⟩ = some (.int .i64 y) := by
  obtain ⟨⟨x, y⟩, hx⟩ : ∃ x, l[k]? = some x := ⟨l[k], List.getElem?_eq_getElem hk⟩
  obtain ⟨b, o, rfl, hb, -, -, h0, h1⟩ := h.pairH hx
  exact ⟨b, o, x, y, rfl, hb, hx, trivial, trivial, h0, h1⟩
instance : DecidableEq U64 := fun a b => decidable_of_iff (a.val = b.val) ⟨fun h => by cases a; cases b; cases h; rfl, fun h => by rw [h]⟩

theorem eqU64H (A A' : Option Addr) (c c' B B' n n' : Nat) (l r : List U64) (w : World) (hn : l.length = n) (hn' : r.length = n') (h : At w B A l) (h' : At w B' A' r) (hl : n ≤ 9223372036854775807) :
    Calls Try.prog 22 #[.slice A n c, .slice A' n' c'] w fun e w' => e = .returned (.bool (decide (l = r))) ∧ w = w' := by
  have H := Lib.hid h; clear h
  have H' := Lib.hid h'; clear h'
  have HN := Lib.hid (And.intro hn hn'); clear hn hn'
  by_cases he : n = n'
  · subst he
    go_enter Try.func22, Try.ntmps22
    go_wp2
    go_loop [14] (fun i => ∃ k : Nat, k ≤ n ∧ i = .int .i64 k ∧ Hid (l.take k = r.take k)) (fun i => n - (intOf i).toNat)
    case atStart => exact ⟨0, Nat.zero_le _, rfl, by simp [Hid]⟩
    case round =>
      obtain ⟨k, hk, rfl, heq⟩ := hrel
      by_cases hlt : k < n
      · obtain ⟨b, o, x, rfl, hb, hx, h0⟩ := H.out.u64E (by have := HN.out.1; omega : k < l.length)
        obtain ⟨b', o', x', rfl, hb', hx', h0'⟩ := H'.out.u64E (by have := HN.out.2; omega : k < r.length)
        have HX := Lib.hid (And.intro hx hx'); clear hx hx'
        have hk0 : (0 : Int) ≤ (k : Int) := by omega
        have hk1 : (k : Int) < (n : Int) := by omega
        by_cases hxy : x = x'
        · subst hxy
          go_wp2
          go_round
          case rel => exact ⟨k + 1, by omega, by go_num, by unfold Hid; rw [take_snocH _ _ _ HX.out.1, take_snocH _ _ _ HX.out.2, heq.out]⟩
          case measure => simp [intOf]; omega
        · have hne : (x != x') = true := by simp [hxy]
          have HXY := Lib.hid hxy; clear hxy
          go_wp2
          go_ret
          exact ⟨ret_boolH (by simp [ne_of_atH HX.out.1 HX.out.2 (fun e => HXY.out (by injection e))]), rfl⟩
      · go_wp2
        go_ret
        exact ⟨ret_boolH (by have h1 := heq.out; have h2 := HN.out; rw [List.take_of_length_le (by omega), List.take_of_length_le (by omega)] at h1; simp [h1]), rfl⟩
  · have hne : ((n : Int) != (n' : Int)) = true := by simp; omega
    have HE := Lib.hid he; clear he
    go_enter Try.func22, Try.ntmps22
    go_wp2
    go_ret
    exact ⟨ret_boolH (by have := HE.out; have h2 := HN.out; simp; rintro rfl; omega), rfl⟩


theorem eqIntH (A A' : Option Addr) (c c' B n n' : Nat) (l r : List Int) (w : World) (hn : l.length = n) (hn' : r.length = n') (h : At w B A l) (h' : At w B A' r) (hl : n ≤ 9223372036854775807) :
    Calls Try.prog 31 #[.slice A n c, .slice A' n' c'] w fun e w' => e = .returned (.bool (decide (l = r))) ∧ w = w' := by
  have H := Lib.hid h; clear h
  have H' := Lib.hid h'; clear h'
  have HN := Lib.hid (And.intro hn hn'); clear hn hn'
  by_cases he : n = n'
  · subst he
    go_enter Try.func31, Try.ntmps31
    go_wp2
    go_loop [14] (fun i => ∃ k : Nat, k ≤ n ∧ i = .int .i64 k ∧ Hid (l.take k = r.take k)) (fun i => n - (intOf i).toNat)
    case atStart => exact ⟨0, Nat.zero_le _, rfl, by simp [Hid]⟩
    case round =>
      obtain ⟨k, hk, rfl, heq⟩ := hrel
      by_cases hlt : k < n
      · obtain ⟨b, o, x, rfl, hb, hx, -, h0⟩ := H.out.intE (by have := HN.out.1; omega : k < l.length)
        obtain ⟨b', o', x', rfl, hb', hx', -, h0'⟩ := H'.out.intE (by have := HN.out.2; omega : k < r.length)
        have HX := Lib.hid (And.intro hx hx'); clear hx hx'
        have hk0 : (0 : Int) ≤ (k : Int) := by omega
        have hk1 : (k : Int) < (n : Int) := by omega
        by_cases hxy : x = x'
        · subst hxy
          go_wp2
          go_round
          case rel => exact ⟨k + 1, by omega, by go_num, by unfold Hid; rw [take_snocH _ _ _ HX.out.1, take_snocH _ _ _ HX.out.2, heq.out]⟩
          case measure => simp [intOf]; omega
        · have hne : (x != x') = true := by simp [hxy]
          have HXY := Lib.hid hxy; clear hxy
          go_wp2
          go_ret
          exact ⟨ret_boolH (by simp [ne_of_atH HX.out.1 HX.out.2 HXY.out]), rfl⟩
      · go_wp2
        go_ret
        exact ⟨ret_boolH (by have h1 := heq.out; have h2 := HN.out; rw [List.take_of_length_le (by omega), List.take_of_length_le (by omega)] at h1; simp [h1]), rfl⟩
  · have hne : ((n : Int) != (n' : Int)) = true := by simp; omega
    have HE := Lib.hid he; clear he
    go_enter Try.func31, Try.ntmps31
    go_wp2
    go_ret
    exact ⟨ret_boolH (by have := HE.out; have h2 := HN.out; simp; rintro rfl; omega), rfl⟩


theorem neqRMoveH (x y x' y' : Int) (w : World) : (binOp .neq 82 (.agg #[.int .i64 x, .int .i64 y]) (.agg #[.int .i64 x', .int .i64 y'])).run Try.prog w = .ok (.bool (!decide ((x, y) = (x', y')))) w := by
  have u3 := Try.underlying3
  have a3 := Try.isAgg3
  have z3 := Try.sizeOf3
  have hS : Try.prog.underlying 82 = some (.struct (Try.prog.fieldsOf 82)) := by kernel_rfl
  have hp : Try.prog.stoodInHeld 82 = false := by kernel_rfl
  rw [run_neq_struct, show (10000 : Nat) = 9999 + 1 from rfl, run_equalIn_agg w 9999 82 _ _ hS hp]
  simp only [Program.fieldsOf, Try.underlying82]
  go_simp
  by_cases h1 : x = x' <;> by_cases h2 : y = y' <;> simp [h1, h2]

set_option maxHeartbeats 400000 in
theorem eqRMoveH (A A' : Option Addr) (c c' B n n' : Nat) (l r : List (Int × Int)) (w : World) (hn : l.length = n) (hn2 : r.length = n') (h : At w B A l) (h' : At w B A' r) (hB : B ≤ w.heap.size) (hl : n ≤ 9223372036854775807) (hr : n' ≤ 9223372036854775807) :
    Calls Try.prog 43 #[.slice A n c, .slice A' n' c'] w fun e w' => e = .returned (.bool (decide (l = r))) ∧ Below w.heap.size w w' := by
  subst hn hn2
  have H := Lib.hid h; clear h
  have H' := Lib.hid h'; clear h'
  by_cases hn : l.length = r.length
  · have hn' : ((l.length : Int) != (r.length : Int)) = false := by simp; omega
    have HN := Lib.hid hn; clear hn
    go_enter Try.func43, Try.ntmps43
    go_wp2
    go_loopw [14] (fun i wr => ∃ k : Nat, k ≤ l.length ∧ i = .int .i64 k ∧ Hid (l.take k = r.take k) ∧ Below w.heap.size w wr) (fun i _ => l.length - (intOf i).toNat)
    case atStart => exact ⟨0, Nat.zero_le _, rfl, by simp [Hid], Below.refl _ _⟩
    case round =>
      obtain ⟨k, hk, rfl, heq, hbl⟩ := hrel
      have hsz := hbl.size
      by_cases hlt : k < l.length
      · obtain ⟨b, o, x, y, rfl, hb, hx, -, -, h0, h1⟩ := (H.out.below (hbl.mono hB)).pairE hlt
        obtain ⟨b', o', x', y', rfl, hb', hx', -, -, h0', h1'⟩ := (H'.out.below (hbl.mono hB)).pairE (by have := HN.out; omega : k < r.length)
        have HX := Lib.hid hx; clear hx
        have HX' := Lib.hid hx'; clear hx'
        have hbw : b' < wr.heap.size := by omega
        have hk0 : (0 : Int) ≤ (k : Int) := by omega
        have hk1 : (k : Int) < (r.length : Int) := by have := HN.out; omega
        have hbl2 := hbl.alloc hsz (.cells #[.int .i64 x, .int .i64 y] 82)
        by_cases hxy : (x, y) = (x', y')
        · obtain ⟨rfl, rfl⟩ := Prod.mk.injEq .. ▸ hxy
          have hne := fun w => (neqRMoveH x y x y w).trans (by simp : _ = Result.ok (.bool false) w)
          go_wp2
          go_quiet (fail)
          go_wp2
          go_roundw
          case rel => exact ⟨k + 1, by omega, by go_num, by unfold Hid; rw [take_snocH _ _ _ HX.out, take_snocH _ _ _ HX'.out, heq.out], below_drewN hbl2 _⟩
          case measure => simp [intOf]; omega
        · have hne := fun w => (neqRMoveH x y x' y' w).trans (by rw [decide_eq_false hxy]; rfl : _ = Result.ok (.bool true) w)
          have HXY := Lib.hid hxy; clear hxy
          go_wp2
          go_quiet (fail)
          go_wp2
          go_ret
          exact ⟨ret_boolH (by simp [ne_of_atH HX.out HX'.out HXY.out]), below_drewN hbl2 _⟩
      · go_wp2
        go_ret
        exact ⟨ret_boolH (by have h1 := heq.out; have h2 := HN.out; rw [List.take_of_length_le (by omega), List.take_of_length_le (by omega)] at h1; simp [h1]), hbl⟩
  · have hn' : ((l.length : Int) != (r.length : Int)) = true := by simp; omega
    have HN := Lib.hid hn; clear hn
    go_enter Try.func43, Try.ntmps43
    go_wp2
    go_ret
    exact ⟨ret_boolH (by have := HN.out; simp; rintro rfl; exact this rfl), Below.refl _ _⟩


end Go.Proofs.Ytpkccpegdpodoaa
