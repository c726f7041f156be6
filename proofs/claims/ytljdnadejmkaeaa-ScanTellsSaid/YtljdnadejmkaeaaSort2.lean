/- slices.SortStableFunc at ints: two neighbouring parts change places. -/
import Derived.Test.YtljdnadejmkaeaaSort1
namespace Go.Proofs.Ytljdnadejmkaeaa
open Go.RowKit

attribute [local go_sem ↓] Go.wp_at_zero Go.wp_at_succ

/-- what a round of rotate keeps -/
def RotSt (tgt cur : List Int) (m i j : Nat) : Prop := ∃ D X Y E, cur = D ++ X ++ Y ++ E ∧ D.length + X.length = m ∧ X.length = i ∧ Y.length = j ∧ D ++ Y ++ X ++ E = tgt
theorem RotSt.len {tgt cur : List Int} {m i j : Nat} (h : RotSt tgt cur m i j) : cur.length = tgt.length ∧ i ≤ m ∧ m + j ≤ cur.length := by
  obtain ⟨D, X, Y, E, rfl, h1, h2, h3, rfl⟩ := h
  simp; omega
theorem RotSt.left {tgt cur : List Int} {m i j : Nat} (h : RotSt tgt cur m i j) (hij : j < i) : RotSt tgt (Srt.swpN cur (m - i) m j) m (i - j) j := by
  obtain ⟨D, X, Y, E, rfl, h1, h2, h3, rfl⟩ := h
  obtain ⟨X1, X2, rfl, hX1⟩ : ∃ X1 X2, X = X1 ++ X2 ∧ X1.length = j := ⟨X.take j, X.drop j, (List.take_append_drop _ _).symm, by rw [List.length_take]; omega⟩
  have e := Srt.swpN_parts j X1 Y D X2 E hX1 h3
  rw [List.length_append] at h1 h2
  have e1 : D.length = m - i := by omega
  have e2 : D.length + X1.length + X2.length = m := by omega
  rw [e2, e1] at e
  have e3 : D ++ (X1 ++ X2) ++ Y ++ E = D ++ X1 ++ X2 ++ Y ++ E := by simp
  rw [e3, e]
  exact ⟨D ++ Y, X2, X1, E, rfl, by rw [List.length_append]; omega, by omega, hX1, by simp⟩
theorem RotSt.right {tgt cur : List Int} {m i j : Nat} (h : RotSt tgt cur m i j) (hij : i < j) : RotSt tgt (Srt.swpN cur (m - i) (m + j - i) i) m i (j - i) := by
  obtain ⟨D, X, Y, E, rfl, h1, h2, h3, rfl⟩ := h
  obtain ⟨Y1, Y2, rfl, hY1, hY2⟩ : ∃ Y1 Y2, Y = Y1 ++ Y2 ∧ Y1.length = j - i ∧ Y2.length = i := ⟨Y.take (j - i), Y.drop (j - i), (List.take_append_drop _ _).symm, by rw [List.length_take]; omega, by rw [List.length_drop]; omega⟩
  have e := Srt.swpN_parts i X Y2 D Y1 E h2 hY2
  have e1 : D.length = m - i := by omega
  have e2 : D.length + X.length + Y1.length = m + j - i := by omega
  rw [e2, e1] at e
  have e3 : D ++ X ++ (Y1 ++ Y2) ++ E = D ++ X ++ Y1 ++ Y2 ++ E := by simp
  rw [e3, e]
  exact ⟨D, Y2, Y1, X ++ E, by simp, by omega, hY2, hY1, by simp⟩
theorem RotSt.done {tgt cur : List Int} {m i : Nat} (h : RotSt tgt cur m i i) : Srt.swpN cur (m - i) m i = tgt := by
  obtain ⟨D, X, Y, E, rfl, h1, h2, h3, rfl⟩ := h
  have e := Srt.swpN_parts i X Y D [] E h2 h3
  have e1 : D.length = m - i := by omega
  rw [e1] at e
  rw [List.append_nil, List.append_nil, List.length_nil, show m - i + X.length + 0 = m by omega] at e
  exact e

set_option maxHeartbeats 800000 in
set_option maxRecDepth 100000 in
theorem rotate_any (base g c a m b N : Nat) (fv : Value) (P X Y S : List Int) (w : World) (h : Own w base 3 (some ⟨g, 0, none⟩) c (P ++ X ++ Y ++ S)) (hN : (P ++ X ++ Y ++ S).length = N) (hN5 : N ≤ 100000)
    (ha : P.length = a) (hm : a + X.length = m) (hb : m + Y.length = b) (hX : 0 < X.length) (hY : 0 < Y.length) :
    Calls Try.prog 151 #[.slice (some ⟨g, 0, none⟩) N c, .int .i64 a, .int .i64 m, .int .i64 b, fv] w fun e w' => e = .returned (.tuple #[]) ∧ Own w' base 3 (some ⟨g, 0, none⟩) c (P ++ Y ++ X ++ S) ∧ w.grownBy w' (some g) := by
  obtain ⟨tgt, ht⟩ : ∃ t, P ++ Y ++ X ++ S = t := ⟨_, rfl⟩
  obtain ⟨l, hl⟩ : ∃ t, P ++ X ++ Y ++ S = t := ⟨_, rfl⟩
  have hst : RotSt tgt l m X.length Y.length := ⟨P, X, Y, S, hl.symm, by omega, rfl, rfl, ht⟩
  have htl : tgt.length = N := by have := hst.len.1; rw [hl] at hN; omega
  have hmb : b ≤ N := by have := hst.len; omega
  rw [ht]
  rw [hl] at h
  obtain ⟨i0, hi0⟩ : ∃ i, X.length = i := ⟨_, rfl⟩
  obtain ⟨j0, hj0⟩ : ∃ i, Y.length = i := ⟨_, rfl⟩
  rw [hi0, hj0] at hst
  rw [hi0] at hX hm
  rw [hj0] at hY hb
  have H := Lib.hid (And.intro h (And.intro hst htl)); clear h hst htl hl ht hi0 hj0 ha hN
  have wi : IntKind.i64.wrap ((m : Int) - (a : Int)) = (i0 : Int) := by rw [IntWalk.i64_in _ (by omega)]; omega
  have wj : IntKind.i64.wrap ((b : Int) - (m : Int)) = (j0 : Int) := by rw [IntWalk.i64_in _ (by omega)]; omega
  go_enter Try.func151, Try.ntmps151
  go_wp2_with fail
  go_loopg [10, 11] (i0 + j0) (fun gk iv jv wr => ∃ (i j : Nat) (cur : List Int), 0 < i ∧ 0 < j ∧ i ≤ m ∧ m + j ≤ N ∧ gk = i + j ∧ iv = .int .i64 i ∧ jv = .int .i64 j ∧ Hid (Own wr base 3 (some ⟨g, 0, none⟩) c cur ∧ RotSt tgt cur m i j) ∧ w.grownBy wr (some g))
  case atStart => exact ⟨i0, j0, l, hX, hY, by omega, by omega, rfl, rfl, rfl, ⟨H.out.1, H.out.2.1⟩, World.grownBy.refl w _⟩
  case round =>
    obtain ⟨i, j, cur, hi, hj, him, hmj, rfl, rfl, rfl, hkeep, hgr⟩ := hrel
    have hlen : cur.length = N := by rw [hkeep.out.2.len.1, H.out.2.2]
    clear wi wj
    have wm : IntKind.i64.wrap ((m : Int) - (i : Int)) = ((m - i : Nat) : Int) := by rw [IntWalk.i64_in _ (by omega)]; omega
    rcases Nat.lt_trichotomy i j with hlt | heq | hgt
    · have w1 : IntKind.i64.wrap ((m : Int) + (j : Int)) = (m : Int) + (j : Int) := IntWalk.i64_in _ (by omega)
      have w2 : IntKind.i64.wrap ((m : Int) + (j : Int) - (i : Int)) = ((m + j - i : Nat) : Int) := by rw [IntWalk.i64_in _ (by omega)]; omega
      have w3 : IntKind.i64.wrap ((j : Int) - (i : Int)) = ((j - i : Nat) : Int) := by rw [IntWalk.i64_in _ (by omega)]; omega
      have hr := hkeep.out.2.right hlt
      have HR := Lib.hid (And.intro hr hkeep.out.1); clear hr hkeep
      have HL := Lib.hid hlen; clear hlen
      have hc := fun W (h : Own W base 3 (some ⟨g, 0, none⟩) c cur) => swapRange_any base g c (m - i) (m + j - i) i N fv cur W h HL.out hN5 (by omega) (by omega)
      go_wp2_with fail
      refine (hc wr HR.out.2).mono ?_
      rintro e w' ⟨rfl, ho', hg'⟩
      go_wp2_with fail
      go_roundg (i + (j - i))
      case measure => omega
      case rel => exact ⟨i, j - i, _, hi, by omega, him, by omega, rfl, rfl, rfl, ⟨ho', HR.out.1⟩, hgr.trans hg'⟩
    · subst heq
      have hr := hkeep.out.2.done
      have HR := Lib.hid (And.intro hr hkeep.out.1); clear hr hkeep
      have HL := Lib.hid hlen; clear hlen
      have hc := fun W (h : Own W base 3 (some ⟨g, 0, none⟩) c cur) => swapRange_any base g c (m - i) m i N fv cur W h HL.out hN5 (by omega) (by omega)
      go_wp2_with fail
      refine (hc wr HR.out.2).mono ?_
      rintro e w' ⟨rfl, ho', hg'⟩
      rw [HR.out.1] at ho'
      have HO := Lib.hid ho'; clear ho'
      go_wp2_with fail
      go_end0
      exact ⟨rfl, HO.out, hgr.trans hg'⟩
    · have w3 : IntKind.i64.wrap ((i : Int) - (j : Int)) = ((i - j : Nat) : Int) := by rw [IntWalk.i64_in _ (by omega)]; omega
      have hr := hkeep.out.2.left hgt
      have HR := Lib.hid (And.intro hr hkeep.out.1); clear hr hkeep
      have HL := Lib.hid hlen; clear hlen
      have hc := fun W (h : Own W base 3 (some ⟨g, 0, none⟩) c cur) => swapRange_any base g c (m - i) m j N fv cur W h HL.out hN5 (by omega) (by omega)
      go_wp2_with fail
      refine (hc wr HR.out.2).mono ?_
      rintro e w' ⟨rfl, ho', hg'⟩
      go_wp2_with fail
      go_roundg ((i - j) + j)
      case measure => omega
      case rel => exact ⟨i - j, j, _, by omega, hj, by omega, by omega, rfl, rfl, rfl, ⟨ho', HR.out.1⟩, hgr.trans hg'⟩

end Go.Proofs.Ytljdnadejmkaeaa
