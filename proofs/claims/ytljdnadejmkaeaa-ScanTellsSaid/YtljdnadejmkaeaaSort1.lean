/- slices.SortStableFunc at ints: rows that change places. -/
import Derived.Test.YtljdnadejmkaeaaSortL
import Derived.Test.YtljdnadejmkaeaaDel
import Derived.Test.YtljdnadejmkaeaaCopyA
import Derived.StillTailTactics
import Derived.BigRegion
import Derived.Deep.DeepCutAuto
import Derived.Deep.LoopGhost
import Derived.Deep.DrawnRows
namespace Go.Proofs.Ytljdnadejmkaeaa
open Go.RowKit

attribute [local go_sem ↓] Go.wp_at_zero Go.wp_at_succ

theorem Own.swap2_ {w : World} {base : Nat} {e : TypeId} {c : Nat} {l : List Int} {g i j : Nat} {x y : Int} (h : Own w base e (some ⟨g, 0, none⟩) c l) (hx : l[i]? = some x) (hy : l[j]? = some y) :
    Own ((w.setCell ⟨g, i, none⟩ (.int .i64 y)).setCell ⟨g, j, none⟩ (.int .i64 x)) base e (some ⟨g, 0, none⟩) c (Srt.swap2 l i j) := by
  have hi := (List.getElem?_eq_some_iff.1 hx).1
  have hj := (List.getElem?_eq_some_iff.1 hy).1
  have h1 := (h.set_int y hi).set_int (i := j) x (by rw [List.length_set]; exact hj)
  have e1 : l.getD j 0 = y := by rw [List.getD_eq_getElem?_getD, hy]; rfl
  have e2 : l.getD i 0 = x := by rw [List.getD_eq_getElem?_getD, hx]; rfl
  unfold Srt.swap2
  rw [e1, e2]; exact h1
theorem get_some {l : List Int} {i : Nat} (h : i < l.length) : ∃ x, l[i]? = some x := ⟨_, List.getElem?_eq_getElem h⟩

set_option maxHeartbeats 800000 in
set_option maxRecDepth 100000 in
theorem swapRange_any (base g c a b n N : Nat) (fv : Value) (l : List Int) (w : World) (h : Own w base 3 (some ⟨g, 0, none⟩) c l) (hN : l.length = N) (hN5 : N ≤ 100000) (hab : a + n ≤ b) (hb : b + n ≤ N) :
    Calls Try.prog 155 #[.slice (some ⟨g, 0, none⟩) N c, .int .i64 a, .int .i64 b, .int .i64 n, fv] w fun e w' => e = .returned (.tuple #[]) ∧ Own w' base 3 (some ⟨g, 0, none⟩) c (Srt.swpN l a b n) ∧ w.grownBy w' (some g) := by
  have H := Lib.hid h; clear h
  have HN := Lib.hid hN; clear hN
  go_enter Try.func155, Try.ntmps155
  go_wp2_with fail
  go_loopg [10] n (fun gk kv wr => ∃ (k : Nat), k ≤ n ∧ gk = n - k ∧ kv = .int .i64 k ∧ Hid (Own wr base 3 (some ⟨g, 0, none⟩) c (Srt.swpN l a b k)) ∧ w.grownBy wr (some g))
  case atStart => exact ⟨0, Nat.zero_le _, rfl, rfl, H.out, World.grownBy.refl w _⟩
  case round =>
    obtain ⟨k, hk, rfl, rfl, hkeep, hgr⟩ := hrel
    by_cases hlt : k < n
    · have hlen : (Srt.swpN l a b k).length = N := by rw [Srt.swpN_length, HN.out]
      obtain ⟨x, hx⟩ := get_some (l := Srt.swpN l a b k) (i := a + k) (by omega)
      obtain ⟨y, hy⟩ := get_some (l := Srt.swpN l a b k) (i := b + k) (by omega)
      have cx := hkeep.out.cell_int hx
      have cy := hkeep.out.cell_int hy
      have z0 := hkeep.out.frozen (g := g) rfl (a + k)
      have z1 := (hkeep.out.set_int y (by omega : a + k < (Srt.swpN l a b k).length)).frozen (g := g) rfl (b + k)
      have hy2 : ((Srt.swpN l a b k).set (a + k) y)[b + k]? = some y := by rw [List.getElem?_set_ne (by omega)]; exact hy
      have cy2 := (hkeep.out.set_int y (by omega : a + k < (Srt.swpN l a b k).length)).cell_int hy2
      have hsw : Own ((wr.setCell ⟨g, a + k, none⟩ (.int .i64 y)).setCell ⟨g, b + k, none⟩ (.int .i64 x)) base 3 (some ⟨g, 0, none⟩) c (Srt.swpN l a b (k + 1)) := hkeep.out.swap2_ hx hy
      have hgw : w.grownBy ((wr.setCell ⟨g, a + k, none⟩ (.int .i64 y)).setCell ⟨g, b + k, none⟩ (.int .i64 x)) (some g) := (hgr.trans (grownBy_setCell _ _ _ _)).trans (grownBy_setCell _ _ _ _)
      have HS := Lib.hid (And.intro hsw hgw); clear hsw hgw hx hy hy2 hkeep hlen hgr
      have wa : IntKind.i64.wrap ((a : Int) + (k : Int)) = ((a + k : Nat) : Int) := IntWalk.i64_in _ (by omega)
      have wb : IntKind.i64.wrap ((b : Int) + (k : Int)) = ((b + k : Nat) : Int) := IntWalk.i64_in _ (by omega)
      obtain ⟨i, hi⟩ : ∃ i, a + k = i := ⟨_, rfl⟩
      obtain ⟨j, hj⟩ : ∃ j, b + k = j := ⟨_, rfl⟩
      rw [hi] at wa cx z0 HS cy2 z1
      rw [hj] at wb cy z1 HS cy2
      have hin : i < N := by omega
      have hjn : j < N := by omega
      clear hi hj
      go_wp2_with fail
      go_region
      go_wp2
      go_roundg (n - (k + 1))
      case measure => omega
      case rel => exact ⟨k + 1, by omega, rfl, by go_num, HS.out.1.drew, grownBy_drewN HS.out.2 1⟩
    · obtain rfl : k = n := by omega
      go_wp2_with fail
      go_end0
      exact ⟨rfl, hkeep.out, hgr⟩

end Go.Proofs.Ytljdnadejmkaeaa
