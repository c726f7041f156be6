/- KT: EqF, EqG, CdE, CdF. -/
import Derived.Test.YtdlcooplllimeaaGreatDoorKT1
import Derived.Test.YtdlcooplllimeaaGreatDoorKT13
import Derived.Laws.StructEq
/- slices.Equal over pairs of numbers, strings, ends: told exactly. -/
namespace Go.Proofs.YtdlcooplllimeaaGreatDoor
open Go.RowKit

attribute [local go_sem ↓] Go.wp_at_zero Go.wp_at_succ

namespace Top
theorem take_eq {α : Type} {l m : List α} {k : Nat} {x y : α} (h : l.take k = m.take k) (hx : l[k]? = some x) (hy : m[k]? = some y) (e : x = y) : l.take (k + 1) = m.take (k + 1) := by
  rw [List.take_add_one, List.take_add_one, hx, hy, h, e]
theorem ne_of_get {α : Type} {l m : List α} {k : Nat} {x y : α} (hx : l[k]? = some x) (hy : m[k]? = some y) (e : ¬ x = y) : l ≠ m := by
  intro h
  rw [h, hy] at hx
  exact e (Option.some.inj hx).symm
set_option maxHeartbeats 800000 in
set_option maxRecDepth 100000 in
theorem eqP_any108 (A D : Option Addr) (c d B n m : Nat) (l r : List (Int × Int)) (w : World) (hn : l.length = n) (hm : r.length = m) (h : At w B A l) (h2 : At w B D r) (hl : n ≤ maxLen) :
    Calls Tryz.prog 108 #[.slice A n c, .slice D m d] w fun e w' => ∃ b : Bool, e = .returned (.bool b) ∧ (b = true ↔ l = r) ∧ Below w.heap.size w w' := by
  unfold maxLen at hl
  by_cases hnm : n = m
  · subst hnm
    have H := Lib.hid (And.intro h (And.intro h2 (And.intro hn hm))); clear h h2 hn hm
    go_enter Tryz.func108, Tryz.ntmps108
    go_wp2
    go_loopg [13] n (fun gk i wr => ∃ k : Nat, k ≤ n ∧ gk = n - k ∧ i = .int .i64 k ∧ Hid (l.take k = r.take k) ∧ Hid (∀ p, wr.cell? p = w.cell? p) ∧ Below w.heap.size w wr)
    case atStart => exact ⟨0, Nat.zero_le _, rfl, rfl, by simp [Hid], fun _ => rfl, Below.refl _ _⟩
    case round =>
      obtain ⟨k, hk, rfl, rfl, heq, hsame, hbl⟩ := hrel
      by_cases hlt : k < n
      · obtain ⟨b, o, x, rfl, hb, hx, p0, p1, -⟩ := (H.out.1.keep fun p _ => hsame.out p).pairT (k := k) (by have := H.out.2.2.1; omega)
        obtain ⟨b', o', y, rfl, hb', hy, q0, q1, -⟩ := (H.out.2.1.keep fun p _ => hsame.out p).pairT (k := k) (by have := H.out.2.2.2; omega)
        have hk0 : (0 : Int) ≤ (k : Int) := by omega
        have hk1 : (k : Int) < (n : Int) := by omega
        by_cases e1 : x.1 = y.1
        · by_cases e2 : x.2 = y.2
          · have HX := Lib.hid (And.intro hx (And.intro hy (Prod.ext e1 e2 : x = y))); clear hx hy
            rw [e1] at p0; rw [e2] at p1
            clear e1 e2
            go_wp2_with fail
            go_quiet (fail)
            go_wp2_with fail
            go_roundg (n - (k + 1))
            case measure => omega
            case rel => exact ⟨k + 1, by omega, rfl, by go_num, by unfold Hid; exact take_eq heq.out HX.out.1 HX.out.2.1 HX.out.2.2, fun p => hsame.out p, below_drewN hbl _⟩
          · have f2 : (x.2 == y.2) = false := by simpa using e2
            have HX := Lib.hid (And.intro hx (And.intro hy (fun e : x = y => e2 (by rw [e])))); clear hx hy
            rw [e1] at p0
            clear e1 e2
            go_wp2_with fail
            go_quiet (fail)
            go_wp2_with fail
            go_ret
            exact ⟨false, rfl, ⟨fun h => (by cases h), fun h => absurd h (ne_of_get HX.out.1 HX.out.2.1 HX.out.2.2)⟩, below_drewN hbl _⟩
        · have f1 : (x.1 == y.1) = false := by simpa using e1
          have HX := Lib.hid (And.intro hx (And.intro hy (fun e : x = y => e1 (by rw [e])))); clear hx hy
          clear e1
          go_wp2_with fail
          go_quiet (fail)
          go_wp2_with fail
          go_ret
          exact ⟨false, rfl, ⟨fun h => (by cases h), fun h => absurd h (ne_of_get HX.out.1 HX.out.2.1 HX.out.2.2)⟩, below_drewN hbl _⟩
      · have h1 := heq.out
        rw [List.take_of_length_le (by have := H.out.2.2.1; omega), List.take_of_length_le (by have := H.out.2.2.2; omega)] at h1
        have HE := Lib.hid h1; clear h1
        go_wp2
        go_ret
        exact ⟨true, rfl, ⟨fun _ => HE.out, fun _ => rfl⟩, hbl⟩
  · have d1 : ((n : Int) == (m : Int)) = false := by simp; omega
    have hne : l ≠ r := by intro e; rw [e] at hn; omega
    have H := Lib.hid hne; clear h h2 hn hm hne
    go_enter Tryz.func108, Tryz.ntmps108
    go_wp2
    go_ret
    exact ⟨false, rfl, ⟨fun h => (by cases h), fun h => absurd h H.out⟩, Below.refl _ _⟩
set_option maxHeartbeats 800000 in
set_option maxRecDepth 100000 in
theorem eqP_any43 (A D : Option Addr) (c d B n m : Nat) (l r : List (Int × Int)) (w : World) (hn : l.length = n) (hm : r.length = m) (h : At w B A l) (h2 : At w B D r) (hl : n ≤ maxLen) :
    Calls Tryz.prog 43 #[.slice A n c, .slice D m d] w fun e w' => ∃ b : Bool, e = .returned (.bool b) ∧ (b = true ↔ l = r) ∧ Below w.heap.size w w' := by
  unfold maxLen at hl
  by_cases hnm : n = m
  · subst hnm
    have H := Lib.hid (And.intro h (And.intro h2 (And.intro hn hm))); clear h h2 hn hm
    go_enter Tryz.func43, Tryz.ntmps43
    go_wp2
    go_loopg [13] n (fun gk i wr => ∃ k : Nat, k ≤ n ∧ gk = n - k ∧ i = .int .i64 k ∧ Hid (l.take k = r.take k) ∧ Hid (∀ p, wr.cell? p = w.cell? p) ∧ Below w.heap.size w wr)
    case atStart => exact ⟨0, Nat.zero_le _, rfl, rfl, by simp [Hid], fun _ => rfl, Below.refl _ _⟩
    case round =>
      obtain ⟨k, hk, rfl, rfl, heq, hsame, hbl⟩ := hrel
      by_cases hlt : k < n
      · obtain ⟨b, o, x, rfl, hb, hx, p0, p1, -⟩ := (H.out.1.keep fun p _ => hsame.out p).pairT (k := k) (by have := H.out.2.2.1; omega)
        obtain ⟨b', o', y, rfl, hb', hy, q0, q1, -⟩ := (H.out.2.1.keep fun p _ => hsame.out p).pairT (k := k) (by have := H.out.2.2.2; omega)
        have hk0 : (0 : Int) ≤ (k : Int) := by omega
        have hk1 : (k : Int) < (n : Int) := by omega
        by_cases e1 : x.1 = y.1
        · by_cases e2 : x.2 = y.2
          · have HX := Lib.hid (And.intro hx (And.intro hy (Prod.ext e1 e2 : x = y))); clear hx hy
            rw [e1] at p0; rw [e2] at p1
            clear e1 e2
            go_wp2_with fail
            go_quiet (fail)
            go_wp2_with fail
            go_roundg (n - (k + 1))
            case measure => omega
            case rel => exact ⟨k + 1, by omega, rfl, by go_num, by unfold Hid; exact take_eq heq.out HX.out.1 HX.out.2.1 HX.out.2.2, fun p => hsame.out p, below_drewN hbl _⟩
          · have f2 : (x.2 == y.2) = false := by simpa using e2
            have HX := Lib.hid (And.intro hx (And.intro hy (fun e : x = y => e2 (by rw [e])))); clear hx hy
            rw [e1] at p0
            clear e1 e2
            go_wp2_with fail
            go_quiet (fail)
            go_wp2_with fail
            go_ret
            exact ⟨false, rfl, ⟨fun h => (by cases h), fun h => absurd h (ne_of_get HX.out.1 HX.out.2.1 HX.out.2.2)⟩, below_drewN hbl _⟩
        · have f1 : (x.1 == y.1) = false := by simpa using e1
          have HX := Lib.hid (And.intro hx (And.intro hy (fun e : x = y => e1 (by rw [e])))); clear hx hy
          clear e1
          go_wp2_with fail
          go_quiet (fail)
          go_wp2_with fail
          go_ret
          exact ⟨false, rfl, ⟨fun h => (by cases h), fun h => absurd h (ne_of_get HX.out.1 HX.out.2.1 HX.out.2.2)⟩, below_drewN hbl _⟩
      · have h1 := heq.out
        rw [List.take_of_length_le (by have := H.out.2.2.1; omega), List.take_of_length_le (by have := H.out.2.2.2; omega)] at h1
        have HE := Lib.hid h1; clear h1
        go_wp2
        go_ret
        exact ⟨true, rfl, ⟨fun _ => HE.out, fun _ => rfl⟩, hbl⟩
  · have d1 : ((n : Int) == (m : Int)) = false := by simp; omega
    have hne : l ≠ r := by intro e; rw [e] at hn; omega
    have H := Lib.hid hne; clear h h2 hn hm hne
    go_enter Tryz.func43, Tryz.ntmps43
    go_wp2
    go_ret
    exact ⟨false, rfl, ⟨fun h => (by cases h), fun h => absurd h H.out⟩, Below.refl _ _⟩
set_option maxHeartbeats 800000 in
set_option maxRecDepth 100000 in
theorem eqP_any45 (A D : Option Addr) (c d B n m : Nat) (l r : List (Int × Int)) (w : World) (hn : l.length = n) (hm : r.length = m) (h : At w B A l) (h2 : At w B D r) (hl : n ≤ maxLen) :
    Calls Tryz.prog 45 #[.slice A n c, .slice D m d] w fun e w' => ∃ b : Bool, e = .returned (.bool b) ∧ (b = true ↔ l = r) ∧ Below w.heap.size w w' := by
  unfold maxLen at hl
  by_cases hnm : n = m
  · subst hnm
    have H := Lib.hid (And.intro h (And.intro h2 (And.intro hn hm))); clear h h2 hn hm
    go_enter Tryz.func45, Tryz.ntmps45
    go_wp2
    go_loopg [13] n (fun gk i wr => ∃ k : Nat, k ≤ n ∧ gk = n - k ∧ i = .int .i64 k ∧ Hid (l.take k = r.take k) ∧ Hid (∀ p, wr.cell? p = w.cell? p) ∧ Below w.heap.size w wr)
    case atStart => exact ⟨0, Nat.zero_le _, rfl, rfl, by simp [Hid], fun _ => rfl, Below.refl _ _⟩
    case round =>
      obtain ⟨k, hk, rfl, rfl, heq, hsame, hbl⟩ := hrel
      by_cases hlt : k < n
      · obtain ⟨b, o, x, rfl, hb, hx, p0, p1, -⟩ := (H.out.1.keep fun p _ => hsame.out p).pairT (k := k) (by have := H.out.2.2.1; omega)
        obtain ⟨b', o', y, rfl, hb', hy, q0, q1, -⟩ := (H.out.2.1.keep fun p _ => hsame.out p).pairT (k := k) (by have := H.out.2.2.2; omega)
        have hk0 : (0 : Int) ≤ (k : Int) := by omega
        have hk1 : (k : Int) < (n : Int) := by omega
        by_cases e1 : x.1 = y.1
        · by_cases e2 : x.2 = y.2
          · have HX := Lib.hid (And.intro hx (And.intro hy (Prod.ext e1 e2 : x = y))); clear hx hy
            rw [e1] at p0; rw [e2] at p1
            clear e1 e2
            go_wp2_with fail
            go_quiet (fail)
            go_wp2_with fail
            go_roundg (n - (k + 1))
            case measure => omega
            case rel => exact ⟨k + 1, by omega, rfl, by go_num, by unfold Hid; exact take_eq heq.out HX.out.1 HX.out.2.1 HX.out.2.2, fun p => hsame.out p, below_drewN hbl _⟩
          · have f2 : (x.2 == y.2) = false := by simpa using e2
            have HX := Lib.hid (And.intro hx (And.intro hy (fun e : x = y => e2 (by rw [e])))); clear hx hy
            rw [e1] at p0
            clear e1 e2
            go_wp2_with fail
            go_quiet (fail)
            go_wp2_with fail
            go_ret
            exact ⟨false, rfl, ⟨fun h => (by cases h), fun h => absurd h (ne_of_get HX.out.1 HX.out.2.1 HX.out.2.2)⟩, below_drewN hbl _⟩
        · have f1 : (x.1 == y.1) = false := by simpa using e1
          have HX := Lib.hid (And.intro hx (And.intro hy (fun e : x = y => e1 (by rw [e])))); clear hx hy
          clear e1
          go_wp2_with fail
          go_quiet (fail)
          go_wp2_with fail
          go_ret
          exact ⟨false, rfl, ⟨fun h => (by cases h), fun h => absurd h (ne_of_get HX.out.1 HX.out.2.1 HX.out.2.2)⟩, below_drewN hbl _⟩
      · have h1 := heq.out
        rw [List.take_of_length_le (by have := H.out.2.2.1; omega), List.take_of_length_le (by have := H.out.2.2.2; omega)] at h1
        have HE := Lib.hid h1; clear h1
        go_wp2
        go_ret
        exact ⟨true, rfl, ⟨fun _ => HE.out, fun _ => rfl⟩, hbl⟩
  · have d1 : ((n : Int) == (m : Int)) = false := by simp; omega
    have hne : l ≠ r := by intro e; rw [e] at hn; omega
    have H := Lib.hid hne; clear h h2 hn hm hne
    go_enter Tryz.func45, Tryz.ntmps45
    go_wp2
    go_ret
    exact ⟨false, rfl, ⟨fun h => (by cases h), fun h => absurd h H.out⟩, Below.refl _ _⟩
end Top
end Go.Proofs.YtdlcooplllimeaaGreatDoor

/- slices.Equal over strings, over ends: told exactly. -/
namespace Go.Proofs.YtdlcooplllimeaaGreatDoor
open Go.RowKit

attribute [local go_sem ↓] Go.wp_at_zero Go.wp_at_succ

namespace Top
theorem toList_eq {x y : ByteArray} : (x.toList == y.toList) = true ↔ x = y := by
  rw [beq_iff_eq, ByteArray.toList_eq, ByteArray.toList_eq]
  constructor
  · intro h
    obtain ⟨⟨x⟩⟩ := x
    obtain ⟨⟨y⟩⟩ := y
    simp only at h
    rw [h]
  · intro h; rw [h]
set_option maxHeartbeats 800000 in
set_option maxRecDepth 100000 in
theorem eqS_any (A D : Option Addr) (c d B n m : Nat) (l r : List ByteArray) (w : World) (hn : l.length = n) (hm : r.length = m) (h : At w B A l) (h2 : At w B D r) (hl : n ≤ maxLen) :
    Calls Tryz.prog 46 #[.slice A n c, .slice D m d] w fun e w' => ∃ b : Bool, e = .returned (.bool b) ∧ (b = true ↔ l = r) ∧ Below w.heap.size w w' := by
  unfold maxLen at hl
  by_cases hnm : n = m
  · subst hnm
    have H := Lib.hid (And.intro h (And.intro h2 (And.intro hn hm))); clear h h2 hn hm
    go_enter Tryz.func46, Tryz.ntmps46
    go_wp2
    go_loopg [13] n (fun gk i wr => ∃ k : Nat, k ≤ n ∧ gk = n - k ∧ i = .int .i64 k ∧ Hid (l.take k = r.take k) ∧ Hid (∀ p, wr.cell? p = w.cell? p) ∧ Below w.heap.size w wr)
    case atStart => exact ⟨0, Nat.zero_le _, rfl, rfl, by simp [Hid], fun _ => rfl, Below.refl _ _⟩
    case round =>
      obtain ⟨k, hk, rfl, rfl, heq, hsame, hbl⟩ := hrel
      by_cases hlt : k < n
      · obtain ⟨b, o, x, rfl, hb, hx, p0, -⟩ := (H.out.1.keep fun p _ => hsame.out p).strT (k := k) (by have := H.out.2.2.1; omega)
        obtain ⟨b', o', y, rfl, hb', hy, q0, -⟩ := (H.out.2.1.keep fun p _ => hsame.out p).strT (k := k) (by have := H.out.2.2.2; omega)
        have hk0 : (0 : Int) ≤ (k : Int) := by omega
        have hk1 : (k : Int) < (n : Int) := by omega
        by_cases e1 : x = y
        · have HX := Lib.hid (And.intro hx (And.intro hy e1)); clear hx hy
          rw [e1] at p0
          clear e1
          go_wp2_with fail
          go_quiet (fail)
          go_wp2_with fail
          go_roundg (n - (k + 1))
          case measure => omega
          case rel => exact ⟨k + 1, by omega, rfl, by go_num, by unfold Hid; exact take_eq heq.out HX.out.1 HX.out.2.1 HX.out.2.2, fun p => hsame.out p, below_drewN hbl _⟩
        · have f1 : (x.toList == y.toList) = false := by rw [Bool.eq_false_iff]; exact fun h => e1 (toList_eq.1 h)
          have f2 : (x == y) = false := by rw [beq_toListBytes]; exact f1
          have HX := Lib.hid (And.intro hx (And.intro hy e1)); clear hx hy
          clear e1
          go_wp2_with fail
          go_quiet (fail)
          go_wp2_with fail
          go_ret
          exact ⟨false, rfl, ⟨fun h => (by cases h), fun h => absurd h (ne_of_get HX.out.1 HX.out.2.1 HX.out.2.2)⟩, below_drewN hbl _⟩
      · have h1 := heq.out
        rw [List.take_of_length_le (by have := H.out.2.2.1; omega), List.take_of_length_le (by have := H.out.2.2.2; omega)] at h1
        have HE := Lib.hid h1; clear h1
        go_wp2
        go_ret
        exact ⟨true, rfl, ⟨fun _ => HE.out, fun _ => rfl⟩, hbl⟩
  · have d1 : ((n : Int) == (m : Int)) = false := by simp; omega
    have hne : l ≠ r := by intro e; rw [e] at hn; omega
    have H := Lib.hid hne; clear h h2 hn hm hne
    go_enter Tryz.func46, Tryz.ntmps46
    go_wp2
    go_ret
    exact ⟨false, rfl, ⟨fun h => (by cases h), fun h => absurd h H.out⟩, Below.refl _ _⟩
set_option maxHeartbeats 800000 in
set_option maxRecDepth 100000 in
theorem eqE_any (A D : Option Addr) (c d B n m : Nat) (l r : List En) (w : World) (hn : l.length = n) (hm : r.length = m) (h : At w B A l) (h2 : At w B D r) (hl : n ≤ maxLen) :
    Calls Tryz.prog 49 #[.slice A n c, .slice D m d] w fun e w' => ∃ b : Bool, e = .returned (.bool b) ∧ (b = true ↔ l = r) ∧ Below w.heap.size w w' := by
  unfold maxLen at hl
  by_cases hnm : n = m
  · subst hnm
    have H := Lib.hid (And.intro h (And.intro h2 (And.intro hn hm))); clear h h2 hn hm
    go_enter Tryz.func49, Tryz.ntmps49
    go_wp2
    go_loopg [13] n (fun gk i wr => ∃ k : Nat, k ≤ n ∧ gk = n - k ∧ i = .int .i64 k ∧ Hid (l.take k = r.take k) ∧ Hid (∀ p, wr.cell? p = w.cell? p) ∧ Below w.heap.size w wr)
    case atStart => exact ⟨0, Nat.zero_le _, rfl, rfl, by simp [Hid], fun _ => rfl, Below.refl _ _⟩
    case round =>
      obtain ⟨k, hk, rfl, rfl, heq, hsame, hbl⟩ := hrel
      by_cases hlt : k < n
      · obtain ⟨b, o, x, rfl, hb, hx, p0, p1, p2, -⟩ := (H.out.1.keep fun p _ => hsame.out p).en_ (k := k) (by have := H.out.2.2.1; omega)
        obtain ⟨b', o', y, rfl, hb', hy, q0, q1, q2, -⟩ := (H.out.2.1.keep fun p _ => hsame.out p).en_ (k := k) (by have := H.out.2.2.2; omega)
        have hk0 : (0 : Int) ≤ (k : Int) := by omega
        have hk1 : (k : Int) < (n : Int) := by omega
        by_cases e0 : x.cell = y.cell
        · by_cases e1 : x.fn.1 = y.fn.1
          · by_cases e2 : x.fn.2 = y.fn.2
            · have hxy : x = y := by obtain ⟨xc, x1, x2⟩ := x; obtain ⟨yc, y1, y2⟩ := y; simp only at e0 e1 e2; rw [e0, e1, e2]
              have HX := Lib.hid (And.intro hx (And.intro hy hxy)); clear hx hy hxy
              rw [e0] at p0; rw [e1] at p1; rw [e2] at p2
              clear e0 e1 e2
              go_wp2_with fail
              go_quiet (fail)
              go_wp2_with fail
              go_roundg (n - (k + 1))
              case measure => omega
              case rel => exact ⟨k + 1, by omega, rfl, by go_num, by unfold Hid; exact take_eq heq.out HX.out.1 HX.out.2.1 HX.out.2.2, fun p => hsame.out p, below_drewN hbl _⟩
            · have f2 : (x.fn.2 == y.fn.2) = false := by simpa using e2
              have HX := Lib.hid (And.intro hx (And.intro hy (fun e : x = y => e2 (by rw [e])))); clear hx hy
              rw [e0] at p0; rw [e1] at p1
              clear e0 e1 e2
              go_wp2_with fail
              go_quiet (fail)
              go_wp2_with fail
              go_ret
              exact ⟨false, rfl, ⟨fun h => (by cases h), fun h => absurd h (ne_of_get HX.out.1 HX.out.2.1 HX.out.2.2)⟩, below_drewN hbl _⟩
          · have f1 : (x.fn.1 == y.fn.1) = false := by simpa using e1
            have HX := Lib.hid (And.intro hx (And.intro hy (fun e : x = y => e1 (by rw [e])))); clear hx hy
            rw [e0] at p0
            clear e0 e1
            go_wp2_with fail
            go_quiet (fail)
            go_wp2_with fail
            go_ret
            exact ⟨false, rfl, ⟨fun h => (by cases h), fun h => absurd h (ne_of_get HX.out.1 HX.out.2.1 HX.out.2.2)⟩, below_drewN hbl _⟩
        · have f0 : (x.cell == y.cell) = false := by simpa using e0
          have HX := Lib.hid (And.intro hx (And.intro hy (fun e : x = y => e0 (by rw [e])))); clear hx hy
          clear e0
          go_wp2_with fail
          go_quiet (fail)
          go_wp2_with fail
          go_ret
          exact ⟨false, rfl, ⟨fun h => (by cases h), fun h => absurd h (ne_of_get HX.out.1 HX.out.2.1 HX.out.2.2)⟩, below_drewN hbl _⟩
      · have h1 := heq.out
        rw [List.take_of_length_le (by have := H.out.2.2.1; omega), List.take_of_length_le (by have := H.out.2.2.2; omega)] at h1
        have HE := Lib.hid h1; clear h1
        go_wp2
        go_ret
        exact ⟨true, rfl, ⟨fun _ => HE.out, fun _ => rfl⟩, hbl⟩
  · have d1 : ((n : Int) == (m : Int)) = false := by simp; omega
    have hne : l ≠ r := by intro e; rw [e] at hn; omega
    have H := Lib.hid hne; clear h h2 hn hm hne
    go_enter Tryz.func49, Tryz.ntmps49
    go_wp2
    go_ret
    exact ⟨false, rfl, ⟨fun h => (by cases h), fun h => absurd h H.out⟩, Below.refl _ _⟩
end Top
end Go.Proofs.YtdlcooplllimeaaGreatDoor

/- code: a walk through a function's orders comes to one. -/
namespace Go.Proofs.YtdlcooplllimeaaGreatDoor
open Go.RowKit

attribute [local go_sem ↓] Go.wp_at_zero Go.wp_at_succ

namespace Top
/-- a list of tries of the call's own, in an element that holds it -/
def TryRow (w : World) (base : Nat) (r : Raw 1) : Prop := ∃ (A : Option Addr) (c : Nat) (x : List (Int × Int)), r.cs = [.slice A x.length c] ∧ Own w base 200 A c x ∧ x.length ≤ 20 ∧ ∀ t ∈ x, Flat.ok t
/-- blocks of other types than those that the walk stores into stay as they are -/
def Mine (t : TypeId) : Prop := t = 4 ∨ t = 139 ∨ t = 3 ∨ t = 227
instance (t : TypeId) : Decidable (Mine t) := by unfold Mine; infer_instance
def TryKept (w w' : World) : Prop := ∀ (g : Nat) (cs : Array Value) (t : TypeId) (st : Nat × Nat), ¬ Mine t → w.heap[g]? = some (.cells cs t st) → w'.heap[g]? = w.heap[g]?
theorem TryKept.refl (w : World) : TryKept w w := fun _ _ _ _ _ _ => rfl
theorem TryKept.trans {a b c : World} (h : TryKept a b) (h' : TryKept b c) : TryKept a c := fun g cs t st ht x => (h' g cs t st ht ((h g cs t st ht x).trans x)).trans (h g cs t st ht x)
theorem TryKept.fresh {a b : World} (h : Below a.heap.size a b) : TryKept a b := fun g _ _ _ _ x => h.block g (Array.getElem?_eq_some_iff.1 x).1
theorem TryKept.own {a b : World} (h : TryKept a b) {α : Type} [Flat α] {base : Nat} {e : TypeId} {A : Option Addr} {c : Nat} {l : List α} (ho : Own a base e A c l) (he : ¬ Mine e) : Own b base e A c l := by
  refine ho.block_ fun g hg => ?_
  rcases ho.2 with ⟨h1, _⟩ | ⟨g', cap, cur, hv, _, hh, _⟩
  · injection h1 with h3; rw [h3] at hg; cases hg
  · injection hv with h3; rw [h3] at hg; injection hg with hg; simp only at hg; subst hg
    exact h _ _ _ _ he hh
theorem TryKept.blk_ {a b : World} (h : TryKept a b) {g : Nat} {t : TypeId} {cs : Array Value} (hg : Blk a g t cs) (ht : ¬ Mine t) : Blk b g t cs := (h _ _ _ _ ht hg).trans hg
theorem TryKept.row {base : Nat} {a b : World} (h : TryKept a b) {r : Raw 1} (hr : TryRow a base r) : TryRow b base r := by
  obtain ⟨A, c, x, h1, h2, h3⟩ := hr
  exact ⟨A, c, x, h1, h.own h2 (by decide), h3⟩
theorem TryKept.blk {a : World} {g : Nat} {t : TypeId} {cs : Array Value} (ho : Blk a g t cs) (he : Mine t) (i : Nat) (u : Value) : TryKept a (a.setCell ⟨g, i, none⟩ u) :=
  fun g' cs' t' st ht x => Below.heap_setCell _ _ _ _ (fun e => by
    subst e
    unfold Blk at ho
    rw [ho] at x
    injection x with x
    injection x with _ x2 _
    exact ht (x2 ▸ he))
theorem own_block {a : World} {α : Type} [Flat α] {base : Nat} {e : TypeId} {A : Option Addr} {c : Nat} {l : List α} (ho : Own a base e A c l) {g : Nat} (hg : rowOf A = some g) : ∃ cs, a.heap[g]? = some (.cells cs e (0, 0)) := by
  rcases ho.2 with ⟨h1, _⟩ | ⟨g', cap, cur, hv, _, hh, _⟩
  · injection h1 with h3; rw [h3] at hg; cases hg
  · injection hv with h3; rw [h3] at hg; injection hg with hg; simp only at hg; subst hg
    exact ⟨_, hh⟩
theorem TryKept.set {base : Nat} {a : World} {α : Type} [Flat α] {e : TypeId} {A : Option Addr} {c : Nat} {l : List α} (ho : Own a base e A c l) (he : Mine e) {g i : Nat} (hg : rowOf A = some g) (u : Value) : TryKept a (a.setCell ⟨g, i, none⟩ u) := by
  obtain ⟨cs, h⟩ := own_block ho hg
  exact TryKept.blk (cs := cs) h he i u
theorem TryKept.grown {base : Nat} {a b : World} {α : Type} [Flat α] {e : TypeId} {A : Option Addr} {c : Nat} {l : List α} (ho : Own a base e A c l) (he : Mine e) (hg : a.grownBy b (rowOf A)) : TryKept a b :=
  fun g cs t st ht x => hg.block g (Array.getElem?_eq_some_iff.1 x).1 (fun e' => by
    obtain ⟨cs2, h2⟩ := own_block ho e'.symm
    rw [h2] at x
    injection x with x
    injection x with _ x2 _
    exact ht (x2 ▸ he))
/-- what the walk at block R keeps -/
structure CW (w : World) (base R n dc : Nat) (DA : Option Addr) (v0 v1 v2 v3 : Value) (S O T : Option Addr) (cs co ct : Nat) (seen : List Bool) (out : List (Raw 1)) (todo : List Int) (bad : Bool) : Prop where
  blk : Blk w R 227 #[v0, v1, v2, v3, .slice DA n dc, .slice S seen.length cs, .slice O out.length co, .slice T todo.length ct, .bool bad]
  seen_ : Own w base 4 S cs seen
  out_ : Own w base 139 O co out
  todo_ : Own w base 3 T ct todo
  base_ : base ≤ R
  ls : seen.length = n
  lo : out.length = n
  lt : ∀ x ∈ todo, ∃ k : Nat, x = (k : Int) ∧ k < n
  rows : ∀ r ∈ out, TryRow w base r
theorem CW.fresh {w w' : World} {base R n dc : Nat} {DA : Option Addr} {v0 v1 v2 v3 : Value} {S O T : Option Addr} {cs co ct : Nat} {seen : List Bool} {out : List (Raw 1)} {todo : List Int} {bad : Bool} (h : CW w base R n dc DA v0 v1 v2 v3 S O T cs co ct seen out todo bad) (hb : Below w.heap.size w w') :
    CW w' base R n dc DA v0 v1 v2 v3 S O T cs co ct seen out todo bad := ⟨h.blk.fresh hb, h.seen_.fresh hb, h.out_.fresh hb, h.todo_.fresh hb, h.base_, h.ls, h.lo, h.lt, fun r hr => (TryKept.fresh hb).row (h.rows r hr)⟩
/-- some state of the walk, not further from its end than m -/
def CWx (w : World) (base R n dc : Nat) (DA : Option Addr) (v0 v1 v2 v3 : Value) (m : Nat) : Prop :=
  ∃ (S O T : Option Addr) (cs co ct : Nat) (seen : List Bool) (out : List (Raw 1)) (todo : List Int) (bad : Bool), CW w base R n dc DA v0 v1 v2 v3 S O T cs co ct seen out todo bad ∧ 2 * unseen seen + todo.length ≤ m
theorem CW.bad_ {w : World} {base R n dc : Nat} {DA : Option Addr} {v0 v1 v2 v3 : Value} {S O T : Option Addr} {cs co ct : Nat} {seen : List Bool} {out : List (Raw 1)} {todo : List Int} {bad : Bool} (h : CW w base R n dc DA v0 v1 v2 v3 S O T cs co ct seen out todo bad) (b : Bool) :
    CW (w.setCell ⟨R, 8, none⟩ (.bool b)) base R n dc DA v0 v1 v2 v3 S O T cs co ct seen out todo b ∧ TryKept w (w.setCell ⟨R, 8, none⟩ (.bool b)) := by
  have hk : TryKept w (w.setCell ⟨R, 8, none⟩ (.bool b)) := TryKept.blk h.blk (by decide) _ _
  exact ⟨⟨by have := h.blk.set_ 8 (.bool b); simpa using this, h.seen_.setCell _ _ (own_ne_ty h.seen_ h.blk (by decide)), h.out_.setCell _ _ (own_ne_ty h.out_ h.blk (by decide)), h.todo_.setCell _ _ (own_ne_ty h.todo_ h.blk (by decide)), h.base_, h.ls, h.lo, h.lt, fun r hr => hk.row (h.rows r hr)⟩, hk⟩
section
variable {w w' : World} {base R n dc : Nat} {DA : Option Addr} {v0 v1 v2 v3 : Value} {S O T : Option Addr} {cs co ct gs go : Nat} {seen : List Bool} {out : List (Raw 1)} {todo : List Int} {bad : Bool}
theorem CW.see (h : CW w base R n dc DA v0 v1 v2 v3 (some ⟨gs, 0, none⟩) O T cs co ct seen out todo bad) {k : Nat} (hk : k < n) :
    CW (w.setCell ⟨gs, k, none⟩ (.bool true)) base R n dc DA v0 v1 v2 v3 (some ⟨gs, 0, none⟩) O T cs co ct (seen.set k true) out todo bad ∧ TryKept w (w.setCell ⟨gs, k, none⟩ (.bool true)) ∧ Below base w (w.setCell ⟨gs, k, none⟩ (.bool true)) := by
  have hk1 : TryKept w (w.setCell ⟨gs, k, none⟩ (.bool true)) := TryKept.set h.seen_ (by decide) rfl _
  have hne : R ≠ gs := fun e => own_ne_ty h.seen_ h.blk (by decide) (by rw [e]; rfl)
  refine ⟨⟨?_, h.seen_.set_bool true (by rw [h.ls]; exact hk), h.out_.setCell _ _ (fun e => own_own_ty h.out_ h.seen_ (by decide) gs e rfl), h.todo_.setCell _ _ (fun e => own_own_ty h.todo_ h.seen_ (by decide) gs e rfl), h.base_, by rw [List.length_set]; exact h.ls, h.lo, h.lt, fun r hr => hk1.row (h.rows r hr)⟩, hk1, (Below.refl _ _).setCell (p := ⟨gs, k, none⟩) (h.seen_.lt gs rfl).1 _⟩
  rw [List.length_set]
  exact h.blk.far hne _
theorem CW.put (h : CW w base R n dc DA v0 v1 v2 v3 S (some ⟨go, 0, none⟩) T cs co ct seen out todo bad) {k : Nat} (hk : k < n) {A : Option Addr} {ca : Nat} {l : List (Int × Int)} (hA : Own w base 200 A ca l) (hl : l.length ≤ 20) (hok : ∀ t ∈ l, Flat.ok t) :
    ∃ out', CW (w.setCell ⟨go, k, none⟩ (.slice A l.length ca)) base R n dc DA v0 v1 v2 v3 S (some ⟨go, 0, none⟩) T cs co ct seen out' todo bad ∧ TryKept w (w.setCell ⟨go, k, none⟩ (.slice A l.length ca)) ∧ Below base w (w.setCell ⟨go, k, none⟩ (.slice A l.length ca)) := by
  have hk1 : TryKept w (w.setCell ⟨go, k, none⟩ (.slice A l.length ca)) := TryKept.set h.out_ (by decide) rfl _
  have hne : R ≠ go := fun e => own_ne_ty h.out_ h.blk (by decide) (by rw [e]; rfl)
  obtain ⟨r, hr⟩ : ∃ r, out[k]? = some r := ⟨_, List.getElem?_eq_getElem (by rw [h.lo]; exact hk)⟩
  have hset := h.out_.set_raw (j := 0) (u := .slice A l.length ca) hr (by decide) rfl
  rw [Nat.mul_one, Nat.add_zero] at hset
  refine ⟨_, ⟨?_, h.seen_.setCell _ _ (fun e => own_own_ty h.seen_ h.out_ (by decide) go e rfl), hset, h.todo_.setCell _ _ (fun e => own_own_ty h.todo_ h.out_ (by decide) go e rfl), h.base_, h.ls, by rw [List.length_set]; exact h.lo, h.lt, fun r' hr' => ?_⟩, hk1, (Below.refl _ _).setCell (p := ⟨go, k, none⟩) (h.out_.lt go rfl).1 _⟩
  · rw [List.length_set]
    exact h.blk.far hne _
  · rcases List.mem_or_eq_of_mem_set hr' with h1 | h1
    · exact hk1.row (h.rows r' h1)
    · subst h1
      refine ⟨A, ca, l, ?_, hk1.own hA (by decide), hl, hok⟩
      obtain ⟨rc, rl, ro⟩ := r
      rcases rc with _ | ⟨a, _ | ⟨b, rc⟩⟩ <;> simp at rl
      rfl
end
theorem CWx.mono {w : World} {base R n dc : Nat} {DA : Option Addr} {v0 v1 v2 v3 : Value} {m m' : Nat} (h : CWx w base R n dc DA v0 v1 v2 v3 m) (hm : m ≤ m') : CWx w base R n dc DA v0 v1 v2 v3 m' := by
  obtain ⟨S, O, T, cs, co, ct, seen, out, todo, bad, h1, h2⟩ := h
  exact ⟨S, O, T, cs, co, ct, seen, out, todo, bad, h1, by omega⟩
def ComePost (w : World) (base R n dc : Nat) (DA : Option Addr) (v0 v1 v2 v3 : Value) (m : Nat) (e : Ending) (w' : World) : Prop := e = .returned (.tuple #[]) ∧ CWx w' base R n dc DA v0 v1 v2 v3 m ∧ TryKept w w' ∧ Below base w w'

set_option maxHeartbeats 3200000 in
set_option maxRecDepth 100000 in
theorem cdcome_any (base R n dc : Nat) (DA : Option Addr) (v0 v1 v2 v3 : Value) (S O T A : Option Addr) (cs co ct ca : Nat) (seen : List Bool) (out : List (Raw 1)) (todo : List Int) (bad : Bool) (at_ : Int) (l : List (Int × Int)) (w : World)
    (h : CW w base R n dc DA v0 v1 v2 v3 S O T cs co ct seen out todo bad) (hA : Own w base 200 A ca l) (hok : ∀ t ∈ l, Flat.ok t) (hat : 0 ≤ at_) (hn : n ≤ 600) (htl : todo.length ≤ 1000000) :
    Calls Tryz.prog 133 #[.pointer (some ⟨R, 0, none⟩), .int .i64 at_, .slice A l.length ca] w (ComePost w base R n dc DA v0 v1 v2 v3 (2 * unseen seen + todo.length)) := by
  obtain ⟨P, hP⟩ : ∃ P, ComePost w base R n dc DA v0 v1 v2 v3 (2 * unseen seen + todo.length) = P := ⟨_, rfl⟩
  have HP := Lib.hid hP; rw [hP]; clear hP
  have hcap := hA.le_cap
  have hm1 : l.length ≤ maxLen := by omega
  have q4 := h.blk.cell 4 (v := .slice DA n dc) rfl
  have q5 := h.blk.cell 5 (v := .slice S seen.length cs) rfl
  have q6 := h.blk.cell 6 (v := .slice O out.length co) rfl
  have q7 := h.blk.cell 7 (v := .slice T todo.length ct) rfl
  have q8 := h.blk.cell 8 (v := .bool bad) rfl
  have z7 := h.blk.frozen 7
  have z8 := h.blk.frozen 8
  have hls := h.ls
  have hlo := h.lo
  obtain ⟨hbad, hbk⟩ := h.bad_ true
  have hbase := h.base_
  by_cases hbig : (n : Int) ≤ at_ ∨ 20 < l.length
  · have hfin : P (.returned (.tuple #[])) (w.setCell ⟨R, 8, none⟩ (.bool true)) := by
      rw [← HP.out]
      exact ⟨rfl, ⟨S, O, T, cs, co, ct, seen, out, todo, true, hbad, Nat.le_refl _⟩, hbk, (Below.refl _ _).setCell (p := ⟨R, 8, none⟩) hbase _⟩
    have HF := Lib.hid (And.intro hfin h); clear hfin h hbad hbk hA hok q5 q6 q7 z7
    by_cases h1 : (n : Int) ≤ at_
    · clear hbig
      go_enter Tryz.func133, Tryz.ntmps133
      go_wp2_with fail
      go_end0
      exact HF.out.1
    · have h2 : 20 < l.length := by omega
      have h1' : at_ < (n : Int) := by omega
      clear hbig h1
      go_enter Tryz.func133, Tryz.ntmps133
      go_wp2_with fail
      go_end0
      exact HF.out.1
  have h1 : at_ < (n : Int) := by omega
  have h2 : (l.length : Int) ≤ 20 := by omega
  obtain ⟨k, rfl⟩ : ∃ k : Nat, at_ = k := ⟨at_.toNat, by omega⟩
  have hkn : k < n := by omega
  clear hbig
  obtain ⟨gs, rfl, hgs1, hgs2⟩ := h.seen_.some_ (by omega)
  obtain ⟨go, rfl, hgo1, hgo2⟩ := h.out_.some_ (by omega)
  obtain ⟨s, hs⟩ : ∃ s, seen[k]? = some s := ⟨_, List.getElem?_eq_getElem (by omega)⟩
  obtain ⟨r, hr⟩ : ∃ r, out[k]? = some r := ⟨_, List.getElem?_eq_getElem (by omega)⟩
  have cS := h.seen_.cell_bool hs
  have k1 : (k : Int) < (seen.length : Int) := by omega
  have k2 : (k : Int) < (out.length : Int) := by omega
  obtain ⟨A', c', x, hrc, hx, hx20, hxok⟩ := h.rows r (List.mem_of_getElem? hr)
  have cO := h.out_.raw_cell (j := 0) (u := .slice A' x.length c') hr (by rw [hrc]; rfl)
  rw [Nat.mul_one, Nat.add_zero] at cO
  cases s with
  | true =>
    have heq := eqP_any108 A' A c' ca w.heap.size x.length l.length x l w rfl rfl (hx.at_ hxok) (hA.at_ hok) (by unfold maxLen; omega)
    have HH := Lib.hid (And.intro h heq); clear h heq hx hrc hA hok hbad hbk z7 q8 z8 hs hr
    go_enter Tryz.func133, Tryz.ntmps133
    go_wp2_with fail
    refine HH.out.2.mono ?_
    rintro e w1 ⟨b, rfl, -, hb1⟩
    have h1' := HH.out.1.fresh hb1
    have hbl1 : Below base w w1 := hb1.mono (by omega)
    have hk1 : TryKept w w1 := TryKept.fresh hb1
    obtain ⟨hbad, hbk⟩ := h1'.bad_ true
    have z8 := h1'.blk.frozen 8
    have q8 := h1'.blk.cell 8 (v := .bool bad) rfl
    cases b with
    | true =>
      have hfin : P (.returned (.tuple #[])) w1 := by
        rw [← HP.out]
        exact ⟨rfl, ⟨_, _, T, cs, co, ct, seen, out, todo, bad, h1', Nat.le_refl _⟩, hk1, hbl1⟩
      have HF := Lib.hid hfin; clear hfin hbad hbk h1' hb1 hbl1 hk1 q4 q5 q6 q7 cS cO
      go_wp2_with fail
      go_end0
      exact HF.out
    | false =>
      have hfin : P (.returned (.tuple #[])) (w1.setCell ⟨R, 8, none⟩ (.bool true)) := by
        rw [← HP.out]
        exact ⟨rfl, ⟨_, _, T, cs, co, ct, seen, out, todo, true, hbad, Nat.le_refl _⟩, hk1.trans hbk, hbl1.setCell (p := ⟨R, 8, none⟩) hbase _⟩
      have HF := Lib.hid hfin; clear hfin hbad hbk h1' hb1 hbl1 hk1 q4 q5 q6 q7 cS cO
      go_wp2_with fail
      go_end0
      exact HF.out
  | false =>
    have hU := unseen_set hs
    have HU := Lib.hid hU; clear hU
    have zS := h.seen_.frozen (g := gs) rfl k
    have zO := h.out_.frozen (g := go) rfl k
    have hl20 : l.length ≤ 20 := by omega
    obtain ⟨s1, s2, s3⟩ := h.see hkn
    obtain ⟨o12, u1, u2, u3⟩ := s1.put hkn (s2.own hA (by decide)) hl20 hok
    obtain ⟨i0, hi, hz0, hz1, hz2⟩ := info_parts infoInt
    have zO2 := s1.out_.frozen (g := go) rfl k
    have cO2 := s1.out_.raw_cell (j := 0) (u := .slice A' x.length c') hr (by rw [hrc]; rfl)
    rw [Nat.mul_one, Nat.add_zero] at cO2
    have hd : Below ((w.setCell ⟨gs, k, none⟩ (.bool true)).setCell ⟨go, k, none⟩ (.slice A l.length ca)).heap.size ((w.setCell ⟨gs, k, none⟩ (.bool true)).setCell ⟨go, k, none⟩ (.slice A l.length ca)) ((w.setCell ⟨gs, k, none⟩ (.bool true)).setCell ⟨go, k, none⟩ (.slice A l.length ca)).drew := (Below.refl _ _).drew
    have HH := Lib.hid (And.intro (u1.fresh hd) (And.intro ((s2.trans u2).trans (TryKept.fresh hd)) ((s3.trans u3).drew)))
    have H0 := Lib.hid (And.intro (And.intro (h.blk.cell 5 (v := .slice (some ⟨gs, 0, none⟩) seen.length cs) rfl) (h.blk.cell 6 (v := .slice (some ⟨go, 0, none⟩) out.length co) rfl)) (And.intro (And.intro (s1.blk.cell 5 (v := .slice (some ⟨gs, 0, none⟩) seen.length cs) (by rw [List.length_set]; rfl)) (s1.blk.cell 6 (v := .slice (some ⟨go, 0, none⟩) out.length co) rfl)) (And.intro (u1.blk.cell 5 (v := .slice (some ⟨gs, 0, none⟩) seen.length cs) (by rw [List.length_set]; rfl)) (u1.blk.cell 6 (v := .slice (some ⟨go, 0, none⟩) out.length co) (by rw [u1.lo, h.lo]; rfl)))))
    clear s1 s2 s3 u1 u2 u3 hd h hA hok hbad hbk hs hr hx hrc hxok hx20
    go_enter Tryz.func133, Tryz.ntmps133
    go_upto_region 3 with fail
    refine wp_region_held_drew (S := (fun w' => w'.cell? ⟨R, 5, none⟩ = some (.slice (some ⟨gs, 0, none⟩) seen.length cs) ∧ w'.cell? ⟨R, 6, none⟩ = some (.slice (some ⟨go, 0, none⟩) out.length co))) (by kernel_rfl) ?_ (fun hHeld0 => ?_)
    · first | trivial | ((try dsimp only); (exact H0.out.1))
    refine htk 0 rfl ?_
    try go_frame
    refine htk 1 rfl ?_
    try go_frame
    refine htk 2 rfl ?_
    try go_frame
    refine htk 3 rfl ?_
    try go_frame
    refine htk 4 rfl ?_
    try go_frame
    refine htk 5 rfl ?_
    try go_frame
    refine htk 6 rfl ?_
    try go_frame
    refine htk 7 rfl ?_
    try go_frame
    refine htk 8 rfl ?_
    try go_frame
    refine htk 9 rfl ?_
    try go_frame
    refine htk 10 rfl ?_
    try go_frame
    refine htk 11 rfl ?_
    try go_frame
    refine held_call 12 (by kernel_rfl) rfl (fun K hK => ?_)
    go_simp
    refine hK.out _ _ ?_ (fun hHeld1 => ?_)
    · first | trivial | ((try dsimp only); (exact H0.out.2.1))
    clear hK K hHeld0
    try go_frame
    refine htk 13 rfl ?_
    try go_frame
    refine held_call 14 (by kernel_rfl) rfl (fun K hK => ?_)
    go_simp
    refine hK.out _ _ ?_ (fun hHeld2 => ?_)
    · first | trivial | ((try dsimp only); (exact H0.out.2.2))
    clear hK K hHeld1
    try go_frame
    refine wpAnyH_done (by kernel_rfl) ?_ _
    have HE := HH
    go_upto_region 4 with fail
    refine wp_world (fun W => (∃ out', CW W base R n dc DA v0 v1 v2 v3 (some ⟨gs, 0, none⟩) (some ⟨go, 0, none⟩) T cs co ct (seen.set k true) out' todo bad) ∧ TryKept w W ∧ Below base w W) ⟨⟨_, HE.out.1⟩, HE.out.2⟩ ?_
    rintro W ⟨⟨out', hC⟩, hK, hB⟩
    have r7 := hC.blk.cell 7 (v := .slice T todo.length ct) rfl
    have hWs := hB.size
    have hO0 := hC.todo_.alloc (.cells #[.int .i64 k] 3)
    have HW := Lib.hid (And.intro hC (And.intro hK (And.intro hB hO0))); clear hC hK hB hO0 HE q4 q5 q6 q7 q8 z7 z8 cS cO zS zO H0 HH
    go_wp2_with (at_builtin; go_must (refine wpList_app (α := Int) (m := 1) (B := W.heap.size + 1) (r := [(k : Int)]) rfl (.tmp 49) (.tmp 51) _ rfl base 3 i0 _ 8 Tryz.underlying34 hi hz0 hz1 hz2 rfl (by decide) int_one (by rfl) rfl HW.out.2.2.2 (by rfl) ?_ rfl (by omega) (by simp only [maxLen]; omega) (by simp; omega) ?_))
    · have := At.built W #[.int .i64 k] 3 [(k : Int)] rfl (by intro z hz; simp at hz; subst hz; exact (by unfold I64; omega : I64 k))
      simpa using this
    intro A2 c2 w2 hown2 hgr2 hat2
    have hs2 := hgr2.size
    simp only [World.size_alloc] at hs2
    obtain ⟨hC, hK, hB, hO0⟩ := HW.out
    have b1 : Blk w2 R 227 _ := (hC.blk.alloc _).grown hgr2 (fun e => own_ne_ty hO0 (hC.blk.alloc _) (by decide) e)
    have r7' := b1.cell 7 (v := .slice T todo.length ct) rfl
    have z7' := b1.frozen 7
    have ho1 := (hC.seen_.alloc (.cells #[.int .i64 k] 3)).grown hgr2 (fun g hg e => own_own_ty (hC.seen_.alloc (.cells #[.int .i64 k] 3)) hO0 (by decide) g hg e)
    have ho2 := (hC.out_.alloc (.cells #[.int .i64 k] 3)).grown hgr2 (fun g hg e => own_own_ty (hC.out_.alloc (.cells #[.int .i64 k] 3)) hO0 (by decide) g hg e)
    have hk2 : TryKept W w2 := (TryKept.fresh ((Below.refl _ _).alloc (Nat.le_refl _) _)).trans (TryKept.grown hO0 (by decide) hgr2)
    have hb2 : Below base w w2 := (hB.alloc (by omega) _).grown hgr2 (by simp; omega) (fun g hg => (hO0.lt g hg).1)
    have hk3 : TryKept w2 (w2.setCell ⟨R, 7, none⟩ (.slice A2 (todo.length + 1) c2)) := TryKept.blk b1 (by decide) _ _
    have hfin : P (.returned (.tuple #[])) (w2.setCell ⟨R, 7, none⟩ (.slice A2 (todo.length + 1) c2)) := by
      rw [← HP.out]
      refine ⟨rfl, ⟨some ⟨gs, 0, none⟩, some ⟨go, 0, none⟩, A2, cs, co, c2, seen.set k true, out', todo ++ [(k : Int)], bad, ⟨?_, ho1.setCell _ _ (own_ne_ty ho1 b1 (by decide)), ho2.setCell _ _ (own_ne_ty ho2 b1 (by decide)), hown2.setCell _ _ (own_ne_ty hown2 b1 (by decide)), hC.base_, hC.ls, hC.lo, ?_, fun r' hr' => (hk2.trans hk3).row (hC.rows r' hr')⟩, ?_⟩, hK.trans (hk2.trans hk3), hb2.setCell (p := ⟨R, 7, none⟩) hbase _⟩
      · have := b1.set_ 7 (.slice A2 (todo.length + 1) c2)
        simpa using this
      · intro y hy
        rcases List.mem_append.1 hy with hy | hy
        · exact hC.lt y hy
        · simp at hy; exact ⟨k, hy, hkn⟩
      · have := HU.out
        rw [List.length_append, List.length_singleton]
        omega
    have HF := Lib.hid hfin; clear hfin hC hK hB hO0 b1 ho1 ho2 hk2 hk3 hb2 hown2 hgr2 hat2 HW
    go_wp2_with fail
    go_end0
    exact HF.out
theorem cdcomex_any (base R n dc m nl : Nat) (DA : Option Addr) (v0 v1 v2 v3 : Value) (A : Option Addr) (ca : Nat) (at_ : Int) (l : List (Int × Int)) (w : World) (h : CWx w base R n dc DA v0 v1 v2 v3 m) (hA : Own w base 200 A ca l) (hok : ∀ t ∈ l, Flat.ok t) (hat : 0 ≤ at_) (hn : n ≤ 600) (hm : m ≤ 1000000) (hnl : l.length = nl) :
    Calls Tryz.prog 133 #[.pointer (some ⟨R, 0, none⟩), .int .i64 at_, .slice A nl ca] w (ComePost w base R n dc DA v0 v1 v2 v3 m) := by
  subst hnl
  obtain ⟨S, O, T, cs, co, ct, seen, out, todo, bad, h1, h2⟩ := h
  exact (cdcome_any base R n dc DA v0 v1 v2 v3 S O T A cs co ct ca seen out todo bad at_ l w h1 hA hok hat hn (by omega)).mono fun e w' ⟨a, b, c, d⟩ => ⟨a, b.mono h2, c, d⟩
theorem ComePost.trans {w w1 w' : World} {base R n dc m : Nat} {DA : Option Addr} {v0 v1 v2 v3 : Value} {e e' : Ending} (h : ComePost w base R n dc DA v0 v1 v2 v3 m e w1) (h' : ComePost w1 base R n dc DA v0 v1 v2 v3 m e' w') : ComePost w base R n dc DA v0 v1 v2 v3 m e' w' :=
  ⟨h'.1, h'.2.1, h.2.2.1.trans h'.2.2.1, h.2.2.2.trans h'.2.2.2⟩
theorem ComePost.fresh {w w1 w' : World} {base R n dc m : Nat} {DA : Option Addr} {v0 v1 v2 v3 : Value} {e : Ending} (h : ComePost w base R n dc DA v0 v1 v2 v3 m e w1) (hb : Below w1.heap.size w1 w') (hbase : base ≤ w1.heap.size) : ComePost w base R n dc DA v0 v1 v2 v3 m e w' := by
  obtain ⟨a, ⟨S, O, T, cs, co, ct, seen, out, todo, bad, h1, h2⟩, c, d⟩ := h
  exact ⟨a, ⟨S, O, T, cs, co, ct, seen, out, todo, bad, h1.fresh hb, h2⟩, c.trans (TryKept.fresh hb), d.trans (hb.mono hbase)⟩
end Top
end Go.Proofs.YtdlcooplllimeaaGreatDoor

/- code: a walk goes on from an order. -/
namespace Go.Proofs.YtdlcooplllimeaaGreatDoor
open Go.RowKit

attribute [local go_sem ↓] Go.wp_at_zero Go.wp_at_succ

namespace Top
set_option maxHeartbeats 3200000 in
set_option maxRecDepth 100000 in
theorem cdfrom_any (base R n dc B nf : Nat) (DA : Option Addr) (v0 v1 v2 v3 : Value) (S O T : Option Addr) (cs co ct : Nat) (seen : List Bool) (out : List (Raw 1)) (todo : List Int) (bad : Bool) (k : Nat) (code : List In) (w : World)
    (h : CW w base R n dc DA v0 v1 v2 v3 S O T cs co ct seen out todo bad) (hD : At w B DA code) (hB : B ≤ base) (hcn : code.length = n) (hk : k < n) (hn : n ≤ 600) (htl : todo.length ≤ 100000) (ht : ∀ i ∈ code, tgt nf i) :
    Calls Tryz.prog 134 #[.pointer (some ⟨R, 0, none⟩), .int .i64 k] w (ComePost w base R n dc DA v0 v1 v2 v3 (2 * unseen seen + todo.length)) := by
  have q4 := h.blk.cell 4 (v := .slice DA n dc) rfl
  have q6 := h.blk.cell 6 (v := .slice O out.length co) rfl
  obtain ⟨go, rfl, hgo1, hgo2⟩ := h.out_.some_ (by have := h.lo; omega)
  obtain ⟨r, hr⟩ : ∃ r, out[k]? = some r := ⟨_, List.getElem?_eq_getElem (by have := h.lo; omega)⟩
  obtain ⟨A, c, x, hrc, hx, hx20, hxok⟩ := h.rows r (List.mem_of_getElem? hr)
  have cO := h.out_.raw_cell (j := 0) (u := .slice A x.length c) hr (by rw [hrc]; rfl)
  rw [Nat.mul_one, Nat.add_zero] at cO
  obtain ⟨b, o, i, rfl, hbb, hi, f0, f1, f2, f3, f4, ji0, jia, jib, -⟩ := hD.in_ (k := k) (by omega)
  have htg := ht i (List.mem_of_getElem? hi)
  have k1 : (k : Int) < (n : Int) := by omega
  have k2 : (k : Int) < (out.length : Int) := by have := h.lo; omega
  have k0 : (0 : Int) ≤ (k : Int) := by omega
  have hRlt := h.blk.lt
  have hbase := h.base_
  have H := Lib.hid (And.intro h (And.intro hx (And.intro hxok (And.intro htg hD)))); clear h hx hxok htg hD hr hrc hi ht
  obtain ⟨P, hP⟩ : ∃ P, ComePost w base R n dc (some ⟨b, o, none⟩) v0 v1 v2 v3 (2 * unseen seen + todo.length) = P := ⟨_, rfl⟩
  have HP := Lib.hid hP; rw [hP]; clear hP
  go_enter Tryz.func134, Tryz.ntmps134
  go_upto_region 0 with fail
  have hAll : w.cell? ⟨R, 4, none⟩ = some (.slice (some ⟨b, o, none⟩) n dc) ∧ w.cell? ⟨R, 6, none⟩ = some (.slice (some ⟨go, 0, none⟩) out.length co) ∧ w.cell? ⟨go, k, none⟩ = some (.slice A x.length c) ∧ w.cell? ⟨b, o + k * 5, none⟩ = some (.int .i64 i.op) ∧ w.cell? ⟨b, o + k * 5 + 1, none⟩ = some (.int .i64 i.a) ∧ w.cell? ⟨b, o + k * 5 + 2, none⟩ = some (.int .i64 i.b) ∧ w.cell? ⟨b, o + k * 5 + 3, none⟩ = some (.int .i64 i.c) ∧ w.cell? ⟨b, o + k * 5 + 4, none⟩ = some (.int .i64 i.line) := ⟨q4, q6, cO, f0, f1, f2, f3, f4⟩
  have keep : ∀ V : World, (∀ p : Addr, p.block < w.heap.size → V.cell? p = w.cell? p) → V.cell? ⟨R, 4, none⟩ = some (.slice (some ⟨b, o, none⟩) n dc) ∧ V.cell? ⟨R, 6, none⟩ = some (.slice (some ⟨go, 0, none⟩) out.length co) ∧ V.cell? ⟨go, k, none⟩ = some (.slice A x.length c) ∧ V.cell? ⟨b, o + k * 5, none⟩ = some (.int .i64 i.op) ∧ V.cell? ⟨b, o + k * 5 + 1, none⟩ = some (.int .i64 i.a) ∧ V.cell? ⟨b, o + k * 5 + 2, none⟩ = some (.int .i64 i.b) ∧ V.cell? ⟨b, o + k * 5 + 3, none⟩ = some (.int .i64 i.c) ∧ V.cell? ⟨b, o + k * 5 + 4, none⟩ = some (.int .i64 i.line) := fun V hV => ⟨(hV _ hRlt).trans q4, (hV _ hRlt).trans q6, (hV _ hgo2).trans cO, (hV _ (by simp; omega)).trans f0, (hV _ (by simp; omega)).trans f1, (hV _ (by simp; omega)).trans f2, (hV _ (by simp; omega)).trans f3, (hV _ (by simp; omega)).trans f4⟩
  have KP := Lib.hid keep; clear keep hAll q4 q6 cO f0 f1 f2 f3 f4
  refine wp_region_held_drew (S := (fun w' => w'.cell? ⟨R, 4, none⟩ = some (.slice (some ⟨b, o, none⟩) n dc) ∧ w'.cell? ⟨R, 6, none⟩ = some (.slice (some ⟨go, 0, none⟩) out.length co) ∧ w'.cell? ⟨go, k, none⟩ = some (.slice A x.length c) ∧ w'.cell? ⟨b, o + k * 5, none⟩ = some (.int .i64 i.op) ∧ w'.cell? ⟨b, o + k * 5 + 1, none⟩ = some (.int .i64 i.a) ∧ w'.cell? ⟨b, o + k * 5 + 2, none⟩ = some (.int .i64 i.b) ∧ w'.cell? ⟨b, o + k * 5 + 3, none⟩ = some (.int .i64 i.c) ∧ w'.cell? ⟨b, o + k * 5 + 4, none⟩ = some (.int .i64 i.line))) (by kernel_rfl) ?_ (fun hHeld0 => ?_)
  · first | trivial | ((try dsimp only); (exact KP.out _ (fun _ _ => rfl)))
  refine htk 0 rfl ?_
  try go_frame
  refine htk 1 rfl ?_
  try go_frame
  refine htk 2 rfl ?_
  try go_frame
  refine htk 3 rfl ?_
  try go_frame
  refine htk 4 rfl ?_
  try go_frame
  refine htk 5 rfl ?_
  try go_frame
  refine htk 6 rfl ?_
  try go_frame
  refine htk 7 rfl ?_
  try go_frame
  refine htk 8 rfl ?_
  try go_frame
  refine htk 9 rfl ?_
  try go_frame
  refine htk 10 rfl ?_
  try go_frame
  refine htk 11 rfl ?_
  try go_frame
  refine htk 12 rfl ?_
  try go_frame
  refine htk 13 rfl ?_
  try go_frame
  refine htk 14 rfl ?_
  try go_frame
  refine held_call 15 (by kernel_rfl) rfl (fun K hK => ?_)
  go_simp
  refine hK.out _ _ ?_ (fun hHeld1 => ?_)
  · first | trivial | ((try dsimp only); (exact KP.out _ (fun p hp => World.cell?_alloc_lt w _ p hp)))
  clear hK K hHeld0
  try go_frame
  refine held_call 16 (by kernel_rfl) rfl (fun K hK => ?_)
  go_simp
  refine hK.out _ _ ?_ (fun hHeld2 => ?_)
  · first | trivial | ((try dsimp only); (exact KP.out _ (fun p hp => World.cell?_alloc_lt w _ p hp)))
  clear hK K hHeld1
  try go_frame
  refine htk 17 rfl ?_
  try go_frame
  refine wpAnyH_done (by kernel_rfl) ?_ _
  go_upto_region 1 with fail
  refine wp_world (fun W => Below w.heap.size w W ∧ Blk W w.heap.size 213 #[.int .i64 i.op, .int .i64 i.a, .int .i64 i.b, .int .i64 i.c, .int .i64 i.line]) ⟨((Below.refl _ _).alloc (Nat.le_refl _) _).drew, (Blk.new _ _ _).drew⟩ ?_
  rintro W ⟨hbW, hI⟩
  have i0 := hI.cell 0 (v := .int .i64 i.op) rfl
  have i1 := hI.cell 1 (v := .int .i64 i.a) rfl
  have i2 := hI.cell 2 (v := .int .i64 i.b) rfl
  have hun := unseen_le seen
  have hls := H.out.1.ls
  obtain ⟨m, hm⟩ : ∃ m, 2 * unseen seen + todo.length = m := ⟨_, rfl⟩
  have hm6 : m ≤ 1000000 := by omega
  have hC : CWx W base R n dc (some ⟨b, o, none⟩) v0 v1 v2 v3 m := ⟨_, _, _, _, _, _, _, _, _, _, H.out.1.fresh hbW, by omega⟩
  have hX := H.out.2.1.fresh hbW
  have hKW : TryKept w W := TryKept.fresh hbW
  have hBW : Below base w W := hbW.mono (by omega)
  have hlt := H.out.1.blk.lt
  rw [hm] at HP
  have HW := Lib.hid (And.intro hC (And.intro hX (And.intro hKW (And.intro hBW hI)))); clear hC hX hKW hBW hI KP hbW hm
  have hfin : P (.returned (.tuple #[])) W := by rw [← HP.out]; exact ⟨rfl, HW.out.1, HW.out.2.2.1, HW.out.2.2.2.1⟩
  have HFN := Lib.hid hfin; clear hfin
  by_cases o28 : i.op = 28
  · rw [o28] at i0
    go_wp2_with fail
    go_end0
    exact HFN.out
  by_cases o29 : i.op = 29
  · rw [o29] at i0
    clear o28
    go_wp2_with fail
    go_end0
    exact HFN.out
  have d28 : (i.op == 28) = false := by simpa using o28
  have d29 : (i.op == 29) = false := by simpa using o29
  have hEnd : ∀ w1, ComePost W base R n dc (some ⟨b, o, none⟩) v0 v1 v2 v3 m (.returned (.tuple #[])) w1 → P (.returned (.tuple #[])) w1 := by
    rintro w1 ⟨-, h2, h3, h4⟩
    rw [← HP.out]
    exact ⟨rfl, h2, HW.out.2.2.1.trans h3, HW.out.2.2.2.1.trans h4⟩
  have HE := Lib.hid hEnd; clear hEnd o28 o29
  by_cases o13 : i.op = 13
  · have hc := cdcomex_any base R n dc m x.length (some ⟨b, o, none⟩) v0 v1 v2 v3 A c i.a x W HW.out.1 HW.out.2.1 H.out.2.2.1 (H.out.2.2.2.1.1 o13) hn hm6 rfl
    have HC := Lib.hid hc; clear hc
    rw [o13] at i0
    clear d28 d29 i2 o13
    go_wp2_with fail
    refine HC.out.mono ?_
    rintro e w1 hp
    obtain rfl := hp.1
    have HP1 := Lib.hid (HE.out w1 hp); clear hp
    go_wp2_with fail
    go_end0
    exact HP1.out
  by_cases o14 : i.op = 14
  · have hc := cdcomex_any base R n dc m x.length (some ⟨b, o, none⟩) v0 v1 v2 v3 A c i.a x W HW.out.1 HW.out.2.1 H.out.2.2.1 (H.out.2.2.2.1.2.1 o14) hn hm6 rfl
    have HC := Lib.hid hc; clear hc
    rw [o14] at i0
    clear d28 d29 i2 o13 o14
    go_wp2_with fail
    refine HC.out.mono ?_
    rintro e w1 hp
    obtain rfl := hp.1
    have HP1 := Lib.hid (HE.out w1 hp); clear hp
    go_wp2_with fail
    go_end0
    exact HP1.out
  have d13 : (i.op == 13) = false := by simpa using o13
  have d14 : (i.op == 14) = false := by simpa using o14
  clear o13 o14
  have hkw : IntKind.i64.wrap ((k : Int) + 1) = (k : Int) + 1 := IntWalk.i64_in _ (by omega)
  by_cases o15 : i.op = 15
  · have hc := cdcomex_any base R n dc m x.length (some ⟨b, o, none⟩) v0 v1 v2 v3 A c i.b x W HW.out.1 HW.out.2.1 H.out.2.2.1 (H.out.2.2.2.1.2.2.1 o15) hn hm6 rfl
    have HC := Lib.hid hc; clear hc
    rw [o15] at i0
    clear d28 d29 d13 d14 i1 o15
    go_wp2_with fail
    refine HC.out.mono ?_
    rintro e w1 hp
    obtain rfl := hp.1
    have hc2 := cdcomex_any base R n dc m x.length (some ⟨b, o, none⟩) v0 v1 v2 v3 A c (k + 1) x w1 hp.2.1 (hp.2.2.1.own HW.out.2.1 (by decide)) H.out.2.2.1 (by omega) hn hm6 rfl
    have HP1 := Lib.hid (And.intro hp hc2); clear hp hc2
    clear i0 i2
    go_wp2_with fail
    refine HP1.out.2.mono ?_
    rintro e w2 hp
    obtain rfl := hp.1
    have HP2 := Lib.hid (HE.out w2 (HP1.out.1.trans hp)); clear hp
    go_wp2_with fail
    go_end0
    exact HP2.out
  have d15 : (i.op == 15) = false := by simpa using o15
  clear o15
  by_cases o30 : i.op = 30
  · have hc := cdcomex_any base R n dc m x.length (some ⟨b, o, none⟩) v0 v1 v2 v3 A c i.b x W HW.out.1 HW.out.2.1 H.out.2.2.1 (H.out.2.2.2.1.2.2.2.1 o30) hn hm6 rfl
    have HC := Lib.hid hc; clear hc
    rw [o30] at i0
    clear d28 d29 d13 d14 d15 o30
    go_wp2_with fail
    refine HC.out.mono ?_
    rintro e w1 hp
    obtain rfl := hp.1
    have hI1 := hp.2.2.1.blk_ HW.out.2.2.2.2 (by decide)
    have hX1 := hp.2.2.1.own HW.out.2.1 (by decide)
    have hs1 : base ≤ w1.heap.size := by have := (hX1.le_cap); have := hp.2.2.2.size; have := HW.out.2.2.2.1.size; omega
    have hcl := fun V (hV : Below w1.heap.size w1 V) => cloneTry_any A c V.heap.size x V ((hX1.fresh hV).at_ H.out.2.2.1) (Nat.le_refl _) (by omega)
    have HP1 := Lib.hid (And.intro hp (And.intro hI1 hcl)); clear hp hI1 hcl hX1
    clear i0 i1 i2
    go_upto_region 11 with fail
    have BX : Below w1.heap.size w1 w1.drew := (Below.refl _ _).drew
    obtain ⟨i0', hi', hz0, hz1, hz2⟩ := info_parts infoTry
    have hx21 : x.length + 1 ≤ 21 := by omega
    refine wp_region_held_drew (S := (fun w' => w'.cell? ⟨w.heap.size, 1, none⟩ = some (.int .i64 i.a) ∧ w'.cell? ⟨w.heap.size, 2, none⟩ = some (.int .i64 i.b))) (by kernel_rfl) ?_ (fun hHeld0 => ?_)
    · first | trivial | ((try dsimp only); (exact ⟨(HP1.out.2.1.fresh BX).cell 1 rfl, (HP1.out.2.1.fresh BX).cell 2 rfl⟩))
    refine htk 0 rfl ?_
    try go_frame
    refine htk 2 rfl ?_
    try go_frame
    refine htk 3 rfl ?_
    try go_frame
    refine htk 4 rfl ?_
    try go_frame
    refine htk 5 rfl ?_
    try go_frame
    refine htk 6 rfl ?_
    try go_frame
    refine held_call2 1 7 (by kernel_rfl) rfl rfl (fun K hK => ?_) (fun K hK => ?_)
    · go_simp
      refine (HP1.out.2.2 _ BX).mono ?_; rintro e w4 ⟨A4, c4, rfl, ho4, hb4⟩; have BY := BX.trans (hb4.mono BX.size); clear BX; have BX := BY; clear BY
      try (go_wp2_with fail)
      refine hK.out _ _ ?_ (fun hHeld1 => ?_)
      · first | trivial | ((try dsimp only); (exact ⟨(HP1.out.2.1.fresh BX).cell 1 rfl, (HP1.out.2.1.fresh BX).cell 2 rfl⟩))
      clear hK K hHeld0
      try go_frame
      refine held_call 7 (by kernel_rfl) rfl (fun K hK => ?_)
      go_simp
      have hlit := At.built w4 #[.int .i64 i.a, .int .i64 i.b] 200 [(i.a, i.b)] rfl (by intro z hz; simp at hz; subst hz; exact ⟨jia, jib⟩); have ho5 := ho4.alloc (.cells #[.int .i64 i.a, .int .i64 i.b] 200); have BY := BX.alloc (by have := BX.size; omega) (.cells #[.int .i64 i.a, .int .i64 i.b] 200); clear BX; have BX := BY; clear BY
      refine hK.out _ _ ?_ (fun hHeld2 => ?_)
      · first | trivial | ((try dsimp only); (exact ⟨(HP1.out.2.1.fresh BX).cell 1 rfl, (HP1.out.2.1.fresh BX).cell 2 rfl⟩))
      clear hK K hHeld1
      try go_frame
      refine held_call 8 (by kernel_rfl) rfl (fun K hK => ?_)
      refine step_app (α := Int × Int) (n := x.length) (m := 1) (nm := x.length + 1) (r := [(i.a, i.b)]) (by rfl) (.tmp 49) (.tmp 55) _ (by rfl) w1.heap.size 200 i0' _ 16 Tryz.underlying139 hi' hz0 hz1 hz2 rfl (by decide) pair_oneT (by rfl) rfl ho5 (by rfl) hlit rfl rfl (by omega) (by simp only [maxLen]; omega) (by have := BX.size; simpa using this) ?_; intro A6 c6 w6 ho6 hgr6 hat6; have BY := BX.grown hgr6 (by have := BX.size; simpa using this) (fun g hg => (ho5.lt g hg).1); clear BX; have BX := BY; clear BY
      refine hK.out _ _ ?_ (fun hHeld3 => ?_)
      · first | trivial | ((try dsimp only); (exact ⟨(HP1.out.2.1.fresh BX).cell 1 rfl, (HP1.out.2.1.fresh BX).cell 2 rfl⟩))
      clear hK K hHeld2
      try go_frame
      refine htk 9 rfl ?_
      try go_frame
      refine wpAnyH_done (by kernel_rfl) ?_ _
      have hc2 := cdcomex_any base R n dc m (x.length + 1) (some ⟨b, o, none⟩) v0 v1 v2 v3 A6 c6 (k + 1) (x ++ [(i.a, i.b)]) w6 (HP1.out.1.fresh BX hs1).2.1 (ho6.base_le hs1) (by intro t ht; rcases List.mem_append.1 ht with h | h; exact H.out.2.2.1 t h; simp at h; subst h; exact ⟨jia, jib⟩) (by omega) hn hm6 (by simp)
      have HP6 := Lib.hid (And.intro (HP1.out.1.fresh BX hs1) hc2); clear hc2 ho6 hgr6 hat6 BX hlit ho5 ho4 hb4
      go_wp2_with fail
      refine HP6.out.2.mono ?_
      rintro e w2 hp
      obtain rfl := hp.1
      have HP2 := Lib.hid (HE.out w2 (HP6.out.1.trans hp)); clear hp
      go_wp2_with fail
      go_end0
      exact HP2.out
    · go_simp
      have hlit := At.built w1 #[.int .i64 i.a, .int .i64 i.b] 200 [(i.a, i.b)] rfl (by intro z hz; simp at hz; subst hz; exact ⟨jia, jib⟩); have BY := (((Below.refl w1.heap.size w1).alloc (Nat.le_refl _) (.cells #[.int .i64 i.a, .int .i64 i.b] 200)).drew); clear BX; have BX := BY; clear BY
      refine hK.out _ _ ?_ (fun hHeld1 => ?_)
      · first | trivial | ((try dsimp only); (exact ⟨(HP1.out.2.1.fresh BX).cell 1 rfl, (HP1.out.2.1.fresh BX).cell 2 rfl⟩))
      clear hK K hHeld0
      try go_frame
      refine held_call 1 (by kernel_rfl) rfl (fun K hK => ?_)
      go_simp
      refine (HP1.out.2.2 _ BX).mono ?_; rintro e w4 ⟨A4, c4, rfl, ho4, hb4⟩; have hl4 := (hlit.drew).below (hb4.mono (by simp)); have ho5 := ho4.base_le (show w1.heap.size ≤ _ by simp); have BY := BX.trans (hb4.mono BX.size); clear BX; have BX := BY; clear BY
      try (go_wp2_with fail)
      refine hK.out _ _ ?_ (fun hHeld2 => ?_)
      · first | trivial | ((try dsimp only); (exact ⟨(HP1.out.2.1.fresh BX).cell 1 rfl, (HP1.out.2.1.fresh BX).cell 2 rfl⟩))
      clear hK K hHeld1
      try go_frame
      refine held_call 8 (by kernel_rfl) rfl (fun K hK => ?_)
      refine step_app (α := Int × Int) (n := x.length) (m := 1) (nm := x.length + 1) (r := [(i.a, i.b)]) (by rfl) (.tmp 49) (.tmp 55) _ (by rfl) w1.heap.size 200 i0' _ 16 Tryz.underlying139 hi' hz0 hz1 hz2 rfl (by decide) pair_oneT (by rfl) rfl ho5 (by rfl) hl4 rfl rfl (by omega) (by simp only [maxLen]; omega) (by have := BX.size; simpa using this) ?_; intro A6 c6 w6 ho6 hgr6 hat6; have BY := BX.grown hgr6 (by have := BX.size; simpa using this) (fun g hg => (ho5.lt g hg).1); clear BX; have BX := BY; clear BY
      refine hK.out _ _ ?_ (fun hHeld3 => ?_)
      · first | trivial | ((try dsimp only); (exact ⟨(HP1.out.2.1.fresh BX).cell 1 rfl, (HP1.out.2.1.fresh BX).cell 2 rfl⟩))
      clear hK K hHeld2
      try go_frame
      refine htk 9 rfl ?_
      try go_frame
      refine wpAnyH_done (by kernel_rfl) ?_ _
      have hc2 := cdcomex_any base R n dc m (x.length + 1) (some ⟨b, o, none⟩) v0 v1 v2 v3 A6 c6 (k + 1) (x ++ [(i.a, i.b)]) w6 (HP1.out.1.fresh BX hs1).2.1 (ho6.base_le hs1) (by intro t ht; rcases List.mem_append.1 ht with h | h; exact H.out.2.2.1 t h; simp at h; subst h; exact ⟨jia, jib⟩) (by omega) hn hm6 (by simp)
      have HP6 := Lib.hid (And.intro (HP1.out.1.fresh BX hs1) hc2); clear hc2 ho6 hgr6 hat6 BX hlit hl4 ho5 ho4 hb4
      go_wp2_with fail
      refine HP6.out.2.mono ?_
      rintro e w2 hp
      obtain rfl := hp.1
      have HP2 := Lib.hid (HE.out w2 (HP6.out.1.trans hp)); clear hp
      go_wp2_with fail
      go_end0
      exact HP2.out
  have d30 : (i.op == 30) = false := by simpa using o30
  clear o30
  by_cases o31 : i.op = 31
  · rw [o31] at i0
    clear d28 d29 d13 d14 d15 d30 o31 i1 i2
    by_cases hx0 : x.length = 0
    · have hbad : ∃ bad', Blk W R 227 bad' ∧ 8 < bad'.size := by obtain ⟨S, O, T, cs, co, ct, seen, out, todo, bad, h1, h2⟩ := HW.out.1; exact ⟨_, h1.blk, by simp⟩
      obtain ⟨cb, hcb, hcb8⟩ := hbad
      have q8 := hcb.cell 8 (v := cb[8]) (Array.getElem?_eq_getElem hcb8)
      have z8 := hcb.frozen 8
      have hp : ComePost W base R n dc (some ⟨b, o, none⟩) v0 v1 v2 v3 m (.returned (.tuple #[])) (W.setCell ⟨R, 8, none⟩ (.bool true)) := by
        obtain ⟨S, O, T, cs, co, ct, seen, out, todo, bad, h1, h2⟩ := HW.out.1
        exact ⟨rfl, ⟨_, _, _, _, _, _, _, _, _, _, (h1.bad_ true).1, h2⟩, (h1.bad_ true).2, (Below.refl _ _).setCell (p := ⟨R, 8, none⟩) hbase _⟩
      have HP2 := Lib.hid (HE.out _ hp); clear hp hcb
      go_wp2_with fail
      go_end0
      exact HP2.out
    · obtain ⟨g, rfl, hg1, hg2⟩ := HW.out.2.1.some_ (by omega)
      have hcap := HW.out.2.1.le_cap
      obtain ⟨q, hq⟩ : ∃ q : Nat, x.length = q + 1 := ⟨x.length - 1, by omega⟩
      have hxt := HW.out.2.1.take_ q (by omega)
      have hwr : IntKind.i64.wrap ((x.length : Int) - 1) = (q : Int) := by rw [IntWalk.i64_in _ (by omega)]; omega
      have hc := cdcomex_any base R n dc m q (some ⟨b, o, none⟩) v0 v1 v2 v3 (some ⟨g, 0, none⟩) c (k + 1) (x.take q) W HW.out.1 hxt (fun t ht => H.out.2.2.1 t (List.mem_of_mem_take ht)) (by omega) hn hm6 (by rw [List.length_take]; omega)
      have HC := Lib.hid hc; clear hc hxt
      have hq0 : (0 : Int) ≤ (q : Int) := by omega
      have hqc : q ≤ c := by omega
      have hxl : (x.length : Int) = (q : Int) + 1 := by omega
      have dx : ((x.length : Int) == 0) = false := by rw [hxl]; simp; omega
      clear hx0
      go_wp2_with fail
      refine HC.out.mono ?_
      rintro e w2 hp
      obtain rfl := hp.1
      have HP2 := Lib.hid (HE.out w2 hp); clear hp
      go_wp2_with fail
      go_end0
      exact HP2.out
  have d31 : (i.op == 31) = false := by simpa using o31
  clear o31
  have hc := cdcomex_any base R n dc m x.length (some ⟨b, o, none⟩) v0 v1 v2 v3 A c (k + 1) x W HW.out.1 HW.out.2.1 H.out.2.2.1 (by omega) hn hm6 rfl
  have HC := Lib.hid hc; clear hc i1 i2
  go_wp2_with fail
  refine HC.out.mono ?_
  rintro e w2 hp
  obtain rfl := hp.1
  have HP2 := Lib.hid (HE.out w2 hp); clear hp
  go_wp2_with fail
  go_end0
  exact HP2.out
end Top
end Go.Proofs.YtdlcooplllimeaaGreatDoor
