/- live.Spans: its closure writes what is asked. -/
import Derived.Test.YtljdnadejmkaeaaLive14
import Derived.Test.YtljdnadejmkaeaaRep2
import Derived.StillTailTactics
namespace Go.Proofs.Ytljdnadejmkaeaa
open Go.RowKit

namespace Liv
theorem evs_get {n loop at_ : Int} {l : List Int} {k : Nat} {v : Int} (h : l[k]? = some v) : (evs n loop at_ l)[k]? = some (v, if v < loop ∧ loop ≤ at_ then n else at_) := by
  unfold evs; rw [List.getElem?_map, h]; rfl
theorem evs_length (n loop at_ : Int) (l : List Int) : (evs n loop at_ l).length = l.length := by unfold evs; rw [List.length_map]
theorem updE_at {o : List (Int × Int)} {v : Nat} {t : Int} {y : Int × Int} (h : o[v]? = some y) : updE o ((v : Int), t) = o.set v ((v : Int), max y.2 t) := by
  unfold updE; rw [Int.toNat_natCast, List.getD_eq_getElem?_getD, h]; rfl
end Liv

theorem grownBy_drew' {w w' : World} {row : Option Nat} (h : w.grownBy w' row) : w.grownBy w'.drew row := ⟨h.os, h.tape, h.output, h.size, h.block⟩

set_option maxHeartbeats 1600000 in
set_option maxRecDepth 100000 in
theorem ask_any (B base g c n ln lc GT GN GO : Nat) (LA : Option Addr) (at_ loop : Int) (v0 v1 v3 v4 v5 v6 v7 v8 v9 v10 v11 v12 : Value) (o : List (Int × Int)) (l : List Int) (w : World)
    (hT : Blk w GT 72 #[v0, v1, .int .i64 loop, v3, v4, v5, v6, v7, v8, v9, v10, v11, v12]) (hN : Blk w GN 3 #[.int .i64 n]) (hO : Blk w GO 74 #[.slice (some ⟨g, 0, none⟩) n c])
    (hown : Own w base 78 (some ⟨g, 0, none⟩) c o) (hon : o.length = n) (hL : At w B LA l) (hln : l.length = ln) (hB : B ≤ w.heap.size) (hne : rowOf LA ≠ some g) (hl : ln ≤ 9223372036854775807) (hv : ∀ v ∈ l, 0 ≤ v ∧ v < n) :
    Calls Try.prog 66 #[.int .i64 at_, .slice LA ln lc, .pointer (some ⟨GT, 0, none⟩), .pointer (some ⟨GN, 0, none⟩), .pointer (some ⟨GO, 0, none⟩)] w fun e w' => e = .returned (.tuple #[]) ∧ Own w' base 78 (some ⟨g, 0, none⟩) c (Liv.runE (Liv.evs n loop at_ l) o) ∧ w.grownBy w' (some g) := by
  have nT := own_ne_ty hown hT (by decide)
  have nN := own_ne_ty hown hN (by decide)
  have nO := own_ne_ty hown hO (by decide)
  simp only [rowOf, Option.map_some] at nT nN nO
  have H := Lib.hid (And.intro hT (And.intro hN (And.intro hO (And.intro hL (And.intro hln (And.intro hv hown)))))); clear hT hN hO hL hln hv hown
  have HNE := Lib.hid (And.intro nT (And.intro nN (And.intro nO (And.intro hne hon)))); clear nT nN nO hne hon
  go_enter Try.func66, Try.ntmps66
  go_wp2_with fail
  go_loopg [8, 9, 12] (ln) (fun gk vv tv iv wr => ∃ (k : Nat), k ≤ ln ∧ gk = ln - k ∧ iv = .int .i64 k ∧ Hid (Own wr base 78 (some ⟨g, 0, none⟩) c (Liv.runE ((Liv.evs n loop at_ l).take k) o)) ∧ w.grownBy wr (some g))
  case atStart => exact ⟨0, Nat.zero_le _, rfl, rfl, H.out.2.2.2.2.2.2, World.grownBy.refl w _⟩
  case round =>
    obtain ⟨k, hk, rfl, rfl, hkeep, hgr⟩ := hrel
    have hsz := hgr.size
    by_cases hlt : k < ln
    · obtain ⟨b, ob, v, rfl, hb, hx, hov, h0⟩ := (H.out.2.2.2.1.grown_ hB hgr (fun q hq e => HNE.out.2.2.2.1 (by rw [hq]; exact e.symm))).int_ (by have := H.out.2.2.2.2.1; omega : k < l.length)
      obtain ⟨hv0, hv1⟩ := H.out.2.2.2.2.2.1 v (List.mem_of_getElem? hx)
      obtain ⟨j, rfl⟩ := Int.eq_ofNat_of_zero_le hv0
      have hlen : (Liv.runE ((Liv.evs n loop at_ l).take k) o).length = n := by rw [Liv.runE_length]; exact HNE.out.2.2.2.2
      have hj : j < (Liv.runE ((Liv.evs n loop at_ l).take k) o).length := by omega
      obtain ⟨y, hy⟩ : ∃ y, (Liv.runE ((Liv.evs n loop at_ l).take k) o)[j]? = some y := ⟨_, List.getElem?_eq_getElem hj⟩
      have hstep := Liv.runE_take _ k _ o (Liv.evs_get (n := n) (loop := loop) (at_ := at_) hx)
      rw [Liv.updE_at hy] at hstep
      obtain ⟨t, ht⟩ : ∃ t, (if (j : Int) < loop ∧ loop ≤ at_ then (n : Int) else at_) = t := ⟨_, rfl⟩
      rw [ht] at hstep
      have cT := (H.out.1.grown hgr (fun e => HNE.out.1 e)).cell 2 (v := .int .i64 loop) rfl
      have cN := (H.out.2.1.grown hgr (fun e => HNE.out.2.1 e)).cell 0 (v := .int .i64 n) rfl
      have cO := (H.out.2.2.1.grown hgr (fun e => HNE.out.2.2.1 e)).cell 0 (v := .slice (some ⟨g, 0, none⟩) n c) rfl
      have o0 := hkeep.out.cells_ (g := g) (o := 0) rfl (j * 2) (.int .i64 y.1) (flat_get _ j 0 y hy (by decide))
      have o1 := hkeep.out.cells_ (g := g) (o := 0) rfl (j * 2 + 1) (.int .i64 y.2) (flat_get _ j 1 y hy (by decide))
      rw [Nat.zero_add] at o0 o1
      have z0 := hkeep.out.frozen (g := g) rfl (j * 2)
      have z1 := hkeep.out.frozen (g := g) rfl (j * 2 + 1)
      have hset : ∀ a b : Int, Own ((wr.setCell ⟨g, j * 2, none⟩ (.int .i64 a)).setCell ⟨g, j * 2 + 1, none⟩ (.int .i64 b)) base 78 (some ⟨g, 0, none⟩) c ((Liv.runE ((Liv.evs n loop at_ l).take k) o).set j (a, b)) := fun a b => hkeep.out.set_two rfl (fun _ => rfl) hy
      have ltT := (H.out.1.grown hgr (fun e => HNE.out.1 e)).lt
      have ltO := (H.out.2.2.1.grown hgr (fun e => HNE.out.2.2.1 e)).lt
      have neT : GT ≠ g := fun e => HNE.out.1 (by rw [e])
      have HS := Lib.hid (And.intro hset (And.intro hstep ht)); clear hset hstep ht hx hy hkeep hlen hj hov
      have hj0 : (0 : Int) ≤ (j : Int) := by omega
      have hcase : t = at_ ∧ ¬ ((j : Int) < loop ∧ loop ≤ at_) ∨ t = n ∧ (j : Int) < loop ∧ loop ≤ at_ := by
        rw [← HS.out.2.2]; by_cases h : (j : Int) < loop ∧ loop ≤ at_
        · right; rw [if_pos h]; exact ⟨rfl, h⟩
        · left; rw [if_neg h]; exact ⟨rfl, h⟩
      rcases hcase with ⟨hta, hnl⟩ | ⟨htn, hl1, hl2⟩
      · subst hta
        by_cases h1 : (j : Int) < loop
        · have h2 : ¬ loop ≤ t := fun h => hnl ⟨h1, h⟩
          clear hnl
          rcases (by omega : y.2 < t ∨ y.2 = t ∨ t < y.2) with hm | hm | hm
          · have hm2 : y.2 ≤ t := by omega
            have hm3 : ¬ t ≤ y.2 := by omega
            have hm4 : ¬ t < y.2 := by omega
            go_wp2_with fail
            go_still_tail 12, (by kernel_rfl)
            change wpList _ _ _ _ _ (World.drew _)
            go_wp2
            go_roundg (ln - (k + 1))
            case measure => omega
            case rel => exact ⟨k + 1, by omega, rfl, by go_num, by unfold Hid; rw [HS.out.2.1, show max y.2 t = t by omega]; exact HS.out.1 _ _, grownBy_drew' ((hgr.trans (grownBy_setCell _ _ _ _)).trans (grownBy_setCell _ _ _ _))⟩
          · have hm2 : y.2 ≤ t := by omega
            have hm3 : t ≤ y.2 := by omega
            have HME := Lib.hid hm; clear hm
            go_wp2_with fail
            go_still_tail 12, (by kernel_rfl)
            change wpList _ _ _ _ _ (World.drew _)
            go_wp2
            go_roundg (ln - (k + 1))
            case measure => omega
            case rel => exact ⟨k + 1, by omega, rfl, by go_num, by unfold Hid; rw [HS.out.2.1, show max y.2 t = y.2 by have := HME.out; omega]; exact HS.out.1 _ _, grownBy_drew' ((hgr.trans (grownBy_setCell _ _ _ _)).trans (grownBy_setCell _ _ _ _))⟩
          · have hm2 : t ≤ y.2 := by omega
            have hm3 : ¬ y.2 ≤ t := by omega
            have hm4 : ¬ y.2 < t := by omega
            go_wp2_with fail
            go_still_tail 12, (by kernel_rfl)
            change wpList _ _ _ _ _ (World.drew _)
            go_wp2
            go_roundg (ln - (k + 1))
            case measure => omega
            case rel => exact ⟨k + 1, by omega, rfl, by go_num, by unfold Hid; rw [HS.out.2.1, show max y.2 t = y.2 by omega]; exact HS.out.1 _ _, grownBy_drew' ((hgr.trans (grownBy_setCell _ _ _ _)).trans (grownBy_setCell _ _ _ _))⟩
        · clear hnl
          rcases (by omega : y.2 < t ∨ y.2 = t ∨ t < y.2) with hm | hm | hm
          · have hm2 : y.2 ≤ t := by omega
            have hm3 : ¬ t ≤ y.2 := by omega
            have hm4 : ¬ t < y.2 := by omega
            go_wp2_with fail
            go_still_tail 12, (by kernel_rfl)
            change wpList _ _ _ _ _ (World.drew _)
            go_wp2
            go_roundg (ln - (k + 1))
            case measure => omega
            case rel => exact ⟨k + 1, by omega, rfl, by go_num, by unfold Hid; rw [HS.out.2.1, show max y.2 t = t by omega]; exact HS.out.1 _ _, grownBy_drew' ((hgr.trans (grownBy_setCell _ _ _ _)).trans (grownBy_setCell _ _ _ _))⟩
          · have hm2 : y.2 ≤ t := by omega
            have hm3 : t ≤ y.2 := by omega
            have HME := Lib.hid hm; clear hm
            go_wp2_with fail
            go_still_tail 12, (by kernel_rfl)
            change wpList _ _ _ _ _ (World.drew _)
            go_wp2
            go_roundg (ln - (k + 1))
            case measure => omega
            case rel => exact ⟨k + 1, by omega, rfl, by go_num, by unfold Hid; rw [HS.out.2.1, show max y.2 t = y.2 by have := HME.out; omega]; exact HS.out.1 _ _, grownBy_drew' ((hgr.trans (grownBy_setCell _ _ _ _)).trans (grownBy_setCell _ _ _ _))⟩
          · have hm2 : t ≤ y.2 := by omega
            have hm3 : ¬ y.2 ≤ t := by omega
            have hm4 : ¬ y.2 < t := by omega
            go_wp2_with fail
            go_still_tail 12, (by kernel_rfl)
            change wpList _ _ _ _ _ (World.drew _)
            go_wp2
            go_roundg (ln - (k + 1))
            case measure => omega
            case rel => exact ⟨k + 1, by omega, rfl, by go_num, by unfold Hid; rw [HS.out.2.1, show max y.2 t = y.2 by omega]; exact HS.out.1 _ _, grownBy_drew' ((hgr.trans (grownBy_setCell _ _ _ _)).trans (grownBy_setCell _ _ _ _))⟩
      · subst htn
        rcases (by omega : y.2 < (n : Int) ∨ y.2 = (n : Int) ∨ (n : Int) < y.2) with hm | hm | hm
        · have hm2 : y.2 ≤ (n : Int) := by omega
          have hm3 : ¬ (n : Int) ≤ y.2 := by omega
          have hm4 : ¬ (n : Int) < y.2 := by omega
          go_wp2_with fail
          go_still_tail 12, (by kernel_rfl)
          change wpList _ _ _ _ _ (World.drew _)
          go_wp2
          go_roundg (ln - (k + 1))
          case measure => omega
          case rel => exact ⟨k + 1, by omega, rfl, by go_num, by unfold Hid; rw [HS.out.2.1, show max y.2 (n : Int) = (n : Int) by omega]; exact HS.out.1 _ _, grownBy_drew' ((hgr.trans (grownBy_setCell _ _ _ _)).trans (grownBy_setCell _ _ _ _))⟩
        · have hm2 : y.2 ≤ (n : Int) := by omega
          have hm3 : (n : Int) ≤ y.2 := by omega
          have HME := Lib.hid hm; clear hm
          go_wp2_with fail
          go_still_tail 12, (by kernel_rfl)
          change wpList _ _ _ _ _ (World.drew _)
          go_wp2
          go_roundg (ln - (k + 1))
          case measure => omega
          case rel => exact ⟨k + 1, by omega, rfl, by go_num, by unfold Hid; rw [HS.out.2.1, show max y.2 (n : Int) = y.2 by have := HME.out; omega]; exact HS.out.1 _ _, grownBy_drew' ((hgr.trans (grownBy_setCell _ _ _ _)).trans (grownBy_setCell _ _ _ _))⟩
        · have hm2 : (n : Int) ≤ y.2 := by omega
          have hm3 : ¬ y.2 ≤ (n : Int) := by omega
          have hm4 : ¬ y.2 < (n : Int) := by omega
          go_wp2_with fail
          go_still_tail 12, (by kernel_rfl)
          change wpList _ _ _ _ _ (World.drew _)
          go_wp2
          go_roundg (ln - (k + 1))
          case measure => omega
          case rel => exact ⟨k + 1, by omega, rfl, by go_num, by unfold Hid; rw [HS.out.2.1, show max y.2 (n : Int) = y.2 by omega]; exact HS.out.1 _ _, grownBy_drew' ((hgr.trans (grownBy_setCell _ _ _ _)).trans (grownBy_setCell _ _ _ _))⟩
    · have hk2 := hkeep.out
      rw [List.take_of_length_le (by rw [Liv.evs_length]; have := H.out.2.2.2.2.1; omega)] at hk2
      have HK := Lib.hid hk2; clear hk2 hkeep
      go_wp2_with fail
      go_end0
      exact ⟨rfl, HK.out, hgr⟩

end Go.Proofs.Ytljdnadejmkaeaa
