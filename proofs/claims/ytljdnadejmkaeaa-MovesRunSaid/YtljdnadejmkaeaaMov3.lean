/- moves.free: the first move that may be done. -/
import Derived.Test.YtljdnadejmkaeaaMov2
namespace Go.Proofs.Ytljdnadejmkaeaa
open Go.RowKit

theorem egOf3 : ∀ args w, (callFunc 107 args).run Try.prog w = .ok (.enter 107 args) w := fun _ _ => by kernel_rfl
theorem egOf4 : ∀ args w, (callFunc 106 args).run Try.prog w = .ok (.enter 106 args) w := fun _ _ => by kernel_rfl
theorem egOf5 : ∀ args w, (callFunc 54 args).run Try.prog w = .ok (.enter 54 args) w := fun _ _ => by kernel_rfl

def wants (m x : Int × Int) : Bool := !decide (x = m) && decide (x.2 = m.1)
def freeP (l : List (Int × Int)) (m : Int × Int) : Bool := !(l.any (wants m))

theorem predFree11 (M : Nat) (m : Int × Int) (l : List (Int × Int)) (w : World) (hM : Blk w M 62 #[.int .i64 m.1, .int .i64 m.2]) : PredP Try.prog 107 #[.pointer (some ⟨M, 0, none⟩)] (wants m) l w := by
  obtain ⟨m1, m2⟩ := m
  rintro W ⟨x, y⟩ _ _ hb
  change Calls Try.prog 107 #[.agg #[.int .i64 x, .int .i64 y], .pointer (some ⟨M, 0, none⟩)] W _
  have c0 := (hM.fresh hb).cell 0 (v := .int .i64 m1) rfl
  have c1 := (hM.fresh hb).cell 1 (v := .int .i64 m2) rfl
  have hlt := hM.lt
  have hs := hb.size
  have hlt2 : M < W.heap.size := by omega
  by_cases hxy : (x, y) = (m1, m2)
  · have hne := fun w => (neqRMove x y m1 m2 w).trans (by rw [decide_eq_true hxy]; rfl : _ = Result.ok (.bool false) w)
    have hw : wants (m1, m2) (x, y) = false := by simp [wants, hxy]
    have HW := Lib.hid hw; clear hw hxy
    go_enter Try.func107, Try.ntmps107
    go_wp2
    go_ret
    exact ⟨ret_bool HW.out.symm, (Below.refl _ _).alloc (Nat.le_refl _) _⟩
  · have hne := fun w => (neqRMove x y m1 m2 w).trans (by rw [decide_eq_false hxy]; rfl : _ = Result.ok (.bool true) w)
    have hw : wants (m1, m2) (x, y) = (y == m1) := by simp only [wants, decide_eq_false hxy]; rw [Bool.eq_iff_iff]; simp
    have HW := Lib.hid hw; clear hw hxy
    go_enter Try.func107, Try.ntmps107
    go_wp2
    go_ret
    exact ⟨ret_bool HW.out.symm, (Below.refl _ _).alloc (Nat.le_refl _) _⟩

theorem predFree1 (M c B n : Nat) (A : Option Addr) (l l' : List (Int × Int)) (w : World) (hn : l.length = n) (hM : Blk w M 56 #[.slice A n c]) (h : At w B A l) (hB : B ≤ w.heap.size) (hl : n ≤ 9223372036854775807) : PredP Try.prog 106 #[.pointer (some ⟨M, 0, none⟩)] (freeP l) l' w := by
  rintro W ⟨x, y⟩ _ _ hb
  change Calls Try.prog 106 #[.agg #[.int .i64 x, .int .i64 y], .pointer (some ⟨M, 0, none⟩)] W _
  have c0 := (hM.fresh hb).cell 0 (v := .slice A n c) rfl
  have hlt := hM.lt
  have hs := hb.size
  have hlt2 : M < W.heap.size := by omega
  have HA := Lib.hid (h.below (hb.mono hB)); clear h
  have HN := Lib.hid hn; clear hn
  go_enter Try.func106, Try.ntmps106
  go_wp2_with fail
  refine calls_world (fun V => Blk V W.heap.size 62 #[.int .i64 x, .int .i64 y] ∧ Below W.heap.size W V ∧ W.heap.size + 1 ≤ V.heap.size) ⟨Blk.new _ _ _, (Below.refl _ _).alloc (Nat.le_refl _) _, by simp⟩ ?_
  rintro V ⟨hX, hbV, hsV⟩
  have hct := containsRMove_n A c B 107 n #[.pointer (some ⟨W.heap.size, 0, none⟩)] _ l V HN.out (HA.out.below (hbV.mono (by omega))) (by omega) hl egOf3 (predFree11 W.heap.size (x, y) _ _ hX)
  have HX := Lib.hid hX; clear hX
  refine hct.mono ?_
  rintro e w1 ⟨rfl, hb1⟩
  go_wp2_with fail
  go_ret
  exact ⟨rfl, hbV.trans (hb1.mono (by omega))⟩

theorem mfree_any (A : Option Addr) (c B n : Nat) (l : List (Int × Int)) (w : World) (hn : l.length = n) (h : At w B A l) (hB : B ≤ w.heap.size) (hl : n ≤ 9223372036854775807) :
    Calls Try.prog 55 #[.slice A n c] w fun e w' => e = .returned (.int .i64 (idxI (freeP l) l)) ∧ Below w.heap.size w w' := by
  have HA := Lib.hid h; clear h
  have HN := Lib.hid hn; clear hn
  go_enter Try.func55, Try.ntmps55
  go_wp2_with fail
  refine calls_world (fun V => Blk V w.heap.size 56 #[.slice A n c] ∧ Below w.heap.size w V ∧ w.heap.size + 1 ≤ V.heap.size) ⟨Blk.new _ _ _, (Below.refl _ _).alloc (Nat.le_refl _) _, by simp⟩ ?_
  rintro V ⟨hX, hbV, hsV⟩
  have hV := HA.out.below (hbV.mono hB)
  have hct := indexRMove_n A c B 106 n #[.pointer (some ⟨w.heap.size, 0, none⟩)] _ l V HN.out hV (by omega) hl egOf4 (predFree1 w.heap.size c B n A l l V HN.out hX hV (by omega) hl)
  have HX := Lib.hid hX; clear hX hV
  have HC := Lib.hid hct; clear hct
  refine HC.out.mono ?_
  rintro e w1 ⟨rfl, hb1⟩
  go_wp2_with fail
  go_ret
  exact ⟨rfl, hbV.trans (hb1.mono (by omega))⟩

theorem idxI_congr {α : Type} {p q : α → Bool} {l : List α} (h : ∀ x ∈ l, p x = q x) : idxI p l = idxI q l := by
  have h1 : l.any p = l.any q := by
    rw [Bool.eq_iff_iff, List.any_eq_true, List.any_eq_true]
    constructor
    · rintro ⟨x, hx, hp⟩; exact ⟨x, hx, by rw [← h x hx]; exact hp⟩
    · rintro ⟨x, hx, hp⟩; exact ⟨x, hx, by rw [h x hx]; exact hp⟩
  have h2 : l.findIdx p = l.findIdx q := by
    clear h1
    induction l with
    | nil => rfl
    | cons x l ih =>
      rw [List.findIdx_cons, List.findIdx_cons, h x (by simp), ih (fun y hy => h y (by simp [hy]))]
  unfold idxI
  rw [h1, h2]

/-- the first move that may be done, as the reference tells it -/
theorem idx_free {spare : Int} {left : List (Int × Int)} (hok : mvOk spare left) : idxI (freeP left) left = if left.any (fre left) = true then (left.findIdx (fre left) : Int) else -1 := by
  have h : idxI (freeP left) left = idxI (fre left) left := idxI_congr (fun m hm => fre_own hok m hm)
  rw [h]
  rfl

theorem predSelf (l : List (Int × Int)) (row : Option Nat) (w : World) : PredQ Try.prog 54 #[] pv (fun m => decide (m.1 = m.2)) l row w := by
  rintro W ⟨x, y⟩ _ _ hb
  change Calls Try.prog 54 #[.agg #[.int .i64 x, .int .i64 y]] W _
  go_enter Try.func54, Try.ntmps54
  go_wp2
  go_ret
  exact ⟨ret_bool (by rw [Bool.eq_iff_iff]; simp), (Below.refl _ _).alloc (Nat.le_refl _) _⟩

end Go.Proofs.Ytljdnadejmkaeaa
