/- scan: its small functions. -/
import Derived.Test.YtljdnadejmkaeaaScanL
import Derived.Test.YtljdnadejmkaeaaRep3
namespace Go.Proofs.Ytljdnadejmkaeaa
open Go.RowKit

set_option maxRecDepth 100000 in
theorem place_1 (a : Int × Int) (w : World) : Calls Try.prog 120 #[.agg #[.int .i64 a.1, .int .i64 a.2]] w fun e w' => e = .returned (.int .i64 a.1) ∧ Below w.heap.size w w' := by
  go_enter Try.func120, Try.ntmps120
  go_wp2
  go_ret
  exact ⟨rfl, (Below.refl _ _).alloc (Nat.le_refl _) _⟩
set_option maxRecDepth 100000 in
theorem place_2 (a : Int × Int) (w : World) : Calls Try.prog 84 #[.agg #[.int .i64 a.1, .int .i64 a.2]] w fun e w' => e = .returned (.int .i64 a.2) ∧ Below w.heap.size w w' := by
  go_enter Try.func84, Try.ntmps84
  go_wp2
  go_ret
  exact ⟨rfl, (Below.refl _ _).alloc (Nat.le_refl _) _⟩

set_option maxRecDepth 100000 in
theorem scounts_any (s : Int × Int) (w : World) : Calls Try.prog 77 #[.agg #[.int .i64 s.1, .int .i64 s.2]] w fun e w' => e = .returned (.bool (Scn.counts s)) ∧ Below w.heap.size w w' := by
  by_cases h : 0 ≤ s.1
  · go_enter Try.func77, Try.ntmps77
    go_wp2
    go_ret
    exact ⟨ret_bool (by simp [Scn.counts, h]), (Below.refl _ _).alloc (Nat.le_refl _) _⟩
  · have h' : decide (0 ≤ s.1) = false := by simpa using h
    go_enter Try.func77, Try.ntmps77
    go_wp2
    go_ret
    exact ⟨ret_bool (by unfold Scn.counts; rw [h']; rfl), (Below.refl _ _).alloc (Nat.le_refl _) _⟩
set_option maxRecDepth 100000 in
theorem srcounts_any (s : Int × Int) (w : World) : Calls Try.prog 40 #[.agg #[.int .i64 s.1, .int .i64 s.2]] w fun e w' => e = .returned (.bool (Scn.counts s)) ∧ Below w.heap.size w w' := by
  by_cases h : 0 ≤ s.1
  · go_enter Try.func40, Try.ntmps40
    go_wp2
    go_ret
    exact ⟨ret_bool (by simp [Scn.counts, h]), (Below.refl _ _).alloc (Nat.le_refl _) _⟩
  · have h' : decide (0 ≤ s.1) = false := by simpa using h
    go_enter Try.func40, Try.ntmps40
    go_wp2
    go_ret
    exact ⟨ret_bool (by unfold Scn.counts; rw [h']; rfl), (Below.refl _ _).alloc (Nat.le_refl _) _⟩

set_option maxRecDepth 100000 in
theorem smeet_any (a b : Int × Int) (w : World) : Calls Try.prog 86 #[.agg #[.int .i64 a.1, .int .i64 a.2], .agg #[.int .i64 b.1, .int .i64 b.2]] w fun e w' => e = .returned (.bool (Scn.meet a b)) ∧ Below w.heap.size w w' := by
  by_cases h : a.1 < b.2
  · go_enter Try.func86, Try.ntmps86
    go_wp2
    go_ret
    exact ⟨ret_bool (by simp [Scn.meet, h]), ((Below.refl _ _).alloc (Nat.le_refl _) _).alloc (by simp) _⟩
  · have h' : decide (a.1 < b.2) = false := by simpa using h
    go_enter Try.func86, Try.ntmps86
    go_wp2
    go_ret
    exact ⟨ret_bool (by unfold Scn.meet; rw [h']; rfl), ((Below.refl _ _).alloc (Nat.le_refl _) _).alloc (by simp) _⟩
set_option maxRecDepth 100000 in
theorem srmeet_any (a b : Int × Int) (w : World) : Calls Try.prog 41 #[.agg #[.int .i64 a.1, .int .i64 a.2], .agg #[.int .i64 b.1, .int .i64 b.2]] w fun e w' => e = .returned (.bool (Scn.meet a b)) ∧ Below w.heap.size w w' := by
  by_cases h : a.1 < b.2
  · go_enter Try.func41, Try.ntmps41
    go_wp2
    go_ret
    exact ⟨ret_bool (by simp [Scn.meet, h]), ((Below.refl _ _).alloc (Nat.le_refl _) _).alloc (by simp) _⟩
  · have h' : decide (a.1 < b.2) = false := by simpa using h
    go_enter Try.func41, Try.ntmps41
    go_wp2
    go_ret
    exact ⟨ret_bool (by unfold Scn.meet; rw [h']; rfl), ((Below.refl _ _).alloc (Nat.le_refl _) _).alloc (by simp) _⟩

set_option maxRecDepth 100000 in
theorem ssame_any (a b : Int × Int) (w : World) : Calls Try.prog 87 #[.agg #[.int .i64 a.1, .int .i64 a.2], .agg #[.int .i64 b.1, .int .i64 b.2]] w fun e w' => e = .returned (.bool (Scn.same a b)) ∧ Below w.heap.size w w' := by
  obtain ⟨q, hq⟩ : ∃ q, Scn.same a b = q := ⟨_, rfl⟩
  rw [hq]
  unfold Scn.same at hq
  have HQ := Lib.hid hq; clear hq
  by_cases h1 : 0 ≤ a.1
  · obtain ⟨b1, hb1⟩ : ∃ b1, (a.1 == b.1) = b1 := ⟨_, rfl⟩
    have hqb : q = b1 := by
      rw [← HQ.out, ← hb1]
      have h2 : decide (a.1 = -1) = false := by simp; omega
      rw [h2]; simp [h1]; rfl
    have HB := Lib.hid hqb; clear hqb
    go_enter Try.func87, Try.ntmps87
    go_wp2
    go_ret
    exact ⟨ret_bool (by rw [HB.out, ← hb1]), ((Below.refl _ _).alloc (Nat.le_refl _) _).alloc (by simp) _⟩
  · have h1' : decide (0 ≤ a.1) = false := by simpa using h1
    by_cases h2 : 0 ≤ b.1
    · have hqb : q = false := by
        rw [← HQ.out, h1']
        have h3 : decide (b.1 = -1) = false := by simp; omega
        rw [h3]; simp
      have hne : (a.1 == b.1) = false := by simp only [beq_eq_false_iff_ne, ne_eq]; omega
      subst hqb
      go_enter Try.func87, Try.ntmps87
      go_wp2
      go_ret
      exact ⟨ret_bool rfl, ((Below.refl _ _).alloc (Nat.le_refl _) _).alloc (by simp) _⟩
    · have h2' : decide (0 ≤ b.1) = false := by simpa using h2
      by_cases h3 : a.1 = -1
      · have e3 : (a.1 == -1) = true := by simp [h3]
        by_cases h4 : b.1 = -1
        · have e4 : (b.1 == -1) = true := by simp [h4]
          by_cases h5 : 0 ≤ a.2
          · have hqb : q = (a.2 == b.2) := by rw [← HQ.out, h1']; simp [h3, h4, h5]; rfl
            have HB := Lib.hid hqb; clear hqb h3 h4 HQ
            go_enter Try.func87, Try.ntmps87
            go_wp2
            go_ret
            exact ⟨ret_bool (by rw [HB.out]), ((Below.refl _ _).alloc (Nat.le_refl _) _).alloc (by simp) _⟩
          · have h5' : decide (0 ≤ a.2) = false := by simpa using h5
            have hqb : q = false := by rw [← HQ.out, h1', h5']; simp
            subst hqb
            clear h3 h4 HQ h5
            go_enter Try.func87, Try.ntmps87
            go_wp2
            go_ret
            exact ⟨ret_bool rfl, ((Below.refl _ _).alloc (Nat.le_refl _) _).alloc (by simp) _⟩
        · have e4 : (b.1 == -1) = false := by simp [h4]
          have hqb : q = false := by rw [← HQ.out, h1']; simp [h4]
          subst hqb
          clear h3 h4 HQ
          go_enter Try.func87, Try.ntmps87
          go_wp2
          go_ret
          exact ⟨ret_bool rfl, ((Below.refl _ _).alloc (Nat.le_refl _) _).alloc (by simp) _⟩
      · have e3 : (a.1 == -1) = false := by simp [h3]
        have hqb : q = false := by rw [← HQ.out, h1']; simp [h3]
        subst hqb
        clear h3 HQ
        go_enter Try.func87, Try.ntmps87
        go_wp2
        go_ret
        exact ⟨ret_bool rfl, ((Below.refl _ _).alloc (Nat.le_refl _) _).alloc (by simp) _⟩

set_option maxRecDepth 100000 in
theorem isNaN_any (x : Int) (w : World) : Calls Try.prog 119 #[.int .i64 x] w fun e w' => e = .returned (.bool false) ∧ w = w' := by
  go_enter Try.func119, Try.ntmps119
  go_wp2
  go_ret
  exact ⟨ret_bool (by simp), rfl⟩

set_option maxRecDepth 100000 in
/-- cmp.Compare where the first is the greater one, or the same -/
theorem compare_ge (x y : Int) (h : y ≤ x) (w : World) : Calls Try.prog 80 #[.int .i64 x, .int .i64 y] w fun e w' => e = .returned (.int .i64 (if y < x then 1 else 0)) ∧ w = w' := by
  have h0 : ¬ x < y := by omega
  by_cases h1 : y < x
  · rw [if_pos h1]
    go_enter Try.func80, Try.ntmps80
    go_wp2_with fail
    refine (isNaN_any x w).mono ?_
    rintro e w1 ⟨rfl, rfl⟩
    go_wp2_with fail
    refine (isNaN_any y w).mono ?_
    rintro e w1 ⟨rfl, rfl⟩
    go_wp2
    go_ret
    exact ⟨rfl, rfl⟩
  · rw [if_neg h1]
    go_enter Try.func80, Try.ntmps80
    go_wp2_with fail
    refine (isNaN_any x w).mono ?_
    rintro e w1 ⟨rfl, rfl⟩
    go_wp2_with fail
    refine (isNaN_any y w).mono ?_
    rintro e w1 ⟨rfl, rfl⟩
    go_wp2
    go_ret
    exact ⟨rfl, rfl⟩

end Go.Proofs.Ytljdnadejmkaeaa
