/- RF: Live1. -/
import Derived.Test.YtljdnadejmkaeaaRF4
import Derived.Deep.LoopGhost
/- live: how many spans go over a place; the most. -/
namespace Go.Proofs.Ytljdnadejmkaeaa
open Go.RowKit

namespace Liv
def counts (s : Int × Int) : Bool := decide (0 ≤ s.1) && decide (s.1 < s.2)
def overs (p : Int) (s : Int × Int) : Bool := counts s && decide (s.1 ≤ p) && decide (p < s.2)
def over (l : List (Int × Int)) (p : Int) : Nat := l.countP (overs p)
def most (l r : List (Int × Int)) : Nat := r.foldl (fun m s => if counts s = true then max m (over l s.1) else m) 0
theorem over_snoc (l : List (Int × Int)) (p : Int) (k : Nat) (x : Int × Int) (h : l[k]? = some x) : over (l.take (k + 1)) p = over (l.take k) p + if overs p x = true then 1 else 0 := by
  rw [List.take_add_one, h]; unfold over; rw [List.countP_append]; simp [List.countP_cons]
theorem most_snoc (l r : List (Int × Int)) (k : Nat) (x : Int × Int) (h : r[k]? = some x) : most l (r.take (k + 1)) = if counts x = true then max (most l (r.take k)) (over l x.1) else most l (r.take k) := by
  rw [List.take_add_one, h]; unfold most; rw [List.foldl_append]; rfl
theorem over_le (l : List (Int × Int)) (p : Int) : over l p ≤ l.length := List.countP_le_length
theorem most_le (l r : List (Int × Int)) : most l r ≤ l.length := by
  have : ∀ (r : List (Int × Int)) (m : Nat), m ≤ l.length → r.foldl (fun m s => if counts s = true then max m (over l s.1) else m) m ≤ l.length := by
    intro r
    induction r with
    | nil => intro m h; exact h
    | cons s r ih =>
      intro m h
      rw [List.foldl_cons]
      refine ih _ ?_
      split
      · have := over_le l s.1; omega
      · exact h
  exact this r 0 (Nat.zero_le _)
end Liv

theorem counts_any (x y : Int) (w : World) : Calls Try.prog 40 #[.agg #[.int .i64 x, .int .i64 y]] w fun e w' => e = .returned (.bool (Liv.counts (x, y))) ∧ Below w.heap.size w w' := by
  obtain ⟨q, hq⟩ : ∃ q, Liv.counts (x, y) = q := ⟨_, rfl⟩
  rw [hq]
  by_cases h0 : 0 ≤ x
  · by_cases h1 : x < y
    · have : q = true := by rw [← hq]; simp [Liv.counts, h0, h1]
      clear hq; subst this
      go_enter Try.func40, Try.ntmps40
      go_wp2_with fail
      go_ret
      exact ⟨rfl, (Below.refl _ _).alloc (Nat.le_refl _) _⟩
    · have : q = false := by rw [← hq]; simp [Liv.counts, h1]
      clear hq; subst this
      go_enter Try.func40, Try.ntmps40
      go_wp2_with fail
      go_ret
      exact ⟨rfl, (Below.refl _ _).alloc (Nat.le_refl _) _⟩
  · have : q = false := by rw [← hq]; simp [Liv.counts, h0]
    clear hq; subst this
    go_enter Try.func40, Try.ntmps40
    go_wp2_with fail
    go_ret
    exact ⟨rfl, (Below.refl _ _).alloc (Nat.le_refl _) _⟩

set_option maxRecDepth 100000 in
theorem over_any (B c n : Nat) (A : Option Addr) (p : Int) (l : List (Int × Int)) (w : World) (hn : l.length = n) (h : At w B A l) (hB : B ≤ w.heap.size) (hl : n ≤ 100000) :
    Calls Try.prog 75 #[.slice A n c, .int .i64 p] w fun e w' => e = .returned (.int .i64 (Liv.over l p : Nat)) ∧ Below w.heap.size w w' := by
  have H := Lib.hid (And.intro h hn); clear h hn
  go_enter Try.func75, Try.ntmps75
  go_wp2_with fail
  go_loopg [5, 10] (n) (fun gk mv iv wr => ∃ (k m : Nat), k ≤ n ∧ gk = n - k ∧ iv = .int .i64 k ∧ mv = .int .i64 m ∧ m ≤ k ∧ Hid (m = Liv.over (l.take k) p) ∧ Below w.heap.size w wr ∧ w.heap.size ≤ wr.heap.size)
  case atStart => exact ⟨0, 0, Nat.zero_le _, rfl, rfl, rfl, Nat.le_refl _, rfl, Below.refl _ _, Nat.le_refl _⟩
  case round =>
    obtain ⟨k, m, hk, rfl, rfl, rfl, hmk, hkeep, hbl, hsz⟩ := hrel
    by_cases hlt : k < n
    · obtain ⟨b, o, x, y, rfl, hb, hx, hox, hoy, d0, d1⟩ := (H.out.1.below (hbl.mono hB)).pair (by have := H.out.2; omega : k < l.length)
      have hsn := Liv.over_snoc l p k _ hx
      have HX := Lib.hid hsn; clear hsn hx hox hoy
      go_wp2_with fail
      refine calls_world (fun W => Blk W wr.heap.size 78 #[.int .i64 x, .int .i64 y] ∧ Below wr.heap.size wr W ∧ wr.heap.size + 1 ≤ W.heap.size) ⟨Blk.new _ _ _, (Below.refl _ _).alloc (Nat.le_refl _) _, by simp⟩ ?_
      rintro W ⟨hG, hbW, hsW⟩
      refine (counts_any x y W).mono ?_
      rintro e w2 ⟨rfl, hb2⟩
      have hs2 := hb2.size
      have hG2 := hG.fresh hb2
      have g0 := hG2.cell 0 (v := .int .i64 x) rfl
      have g1 := hG2.cell 1 (v := .int .i64 y) rfl
      have hbl2 : Below w.heap.size w w2 := hbl.trans ((hbW.trans (hb2.mono (by omega))).mono hsz)
      have lt2 : wr.heap.size < w2.heap.size := by omega
      have hs3 : w.heap.size ≤ w2.heap.size := by omega
      have hwr : IntKind.i64.wrap ((m : Int) + 1) = (m : Int) + 1 := IntWalk.i64_in _ (by omega)
      clear hG hG2 d0 d1
      cases hc : Liv.counts (x, y) with
      | false =>
        have hov : Liv.overs p (x, y) = false := by unfold Liv.overs; rw [hc]; rfl
        have HO := Lib.hid (And.intro hkeep.out hov); clear hov hc hkeep
        go_wp2_with fail
        go_roundg (n - (k + 1))
        case measure => omega
        case rel => exact ⟨k + 1, m, by omega, rfl, by go_num, rfl, by omega, by unfold Hid; rw [HX.out, HO.out.2, ← HO.out.1]; rfl, hbl2, hs3⟩
      | true =>
        by_cases h1 : x ≤ p
        · by_cases h2 : p < y
          · have hov : Liv.overs p (x, y) = true := by unfold Liv.overs; rw [hc]; simp [h1, h2]
            have HO := Lib.hid (And.intro hkeep.out hov); clear hov hc hkeep
            go_wp2_with fail
            go_roundg (n - (k + 1))
            case measure => omega
            case rel => exact ⟨k + 1, m + 1, by omega, rfl, by go_num, by simp, by omega, by unfold Hid; rw [HX.out, HO.out.2, ← HO.out.1]; rfl, hbl2, hs3⟩
          · have hov : Liv.overs p (x, y) = false := by unfold Liv.overs; simp [h2]
            have HO := Lib.hid (And.intro hkeep.out hov); clear hov hc hkeep
            go_wp2_with fail
            go_roundg (n - (k + 1))
            case measure => omega
            case rel => exact ⟨k + 1, m, by omega, rfl, by go_num, rfl, by omega, by unfold Hid; rw [HX.out, HO.out.2, ← HO.out.1]; rfl, hbl2, hs3⟩
        · have hov : Liv.overs p (x, y) = false := by unfold Liv.overs; simp [h1]
          have HO := Lib.hid (And.intro hkeep.out hov); clear hov hc hkeep
          go_wp2_with fail
          go_roundg (n - (k + 1))
          case measure => omega
          case rel => exact ⟨k + 1, m, by omega, rfl, by go_num, rfl, by omega, by unfold Hid; rw [HX.out, HO.out.2, ← HO.out.1]; rfl, hbl2, hs3⟩
    · have hfin := hkeep.out
      rw [List.take_of_length_le (by have := H.out.2; omega)] at hfin
      have HF := Lib.hid hfin; clear hfin hkeep
      go_wp2_with fail
      go_ret
      exact ⟨by rw [← HF.out]; rfl, hbl⟩

set_option maxRecDepth 100000 in
theorem mostOver_any (B c n : Nat) (A : Option Addr) (l : List (Int × Int)) (w : World) (hn : l.length = n) (h : At w B A l) (hB : B ≤ w.heap.size) (hl : n ≤ 100000) :
    Calls Try.prog 34 #[.slice A n c] w fun e w' => e = .returned (.int .i64 (Liv.most l l : Nat)) ∧ Below w.heap.size w w' := by
  have H := Lib.hid (And.intro h hn); clear h hn
  go_enter Try.func34, Try.ntmps34
  go_wp2_with fail
  go_loopg [3, 8] (n) (fun gk mv iv wr => ∃ (k m : Nat), k ≤ n ∧ gk = n - k ∧ iv = .int .i64 k ∧ mv = .int .i64 m ∧ Hid (m = Liv.most l (l.take k)) ∧ Below w.heap.size w wr ∧ w.heap.size ≤ wr.heap.size)
  case atStart => exact ⟨0, 0, Nat.zero_le _, rfl, rfl, rfl, rfl, Below.refl _ _, Nat.le_refl _⟩
  case round =>
    obtain ⟨k, m, hk, rfl, rfl, rfl, hkeep, hbl, hsz⟩ := hrel
    by_cases hlt : k < n
    · obtain ⟨b, o, x, y, rfl, hb, hx, hox, hoy, d0, d1⟩ := (H.out.1.below (hbl.mono hB)).pair (by have := H.out.2; omega : k < l.length)
      have hsn := Liv.most_snoc l l k _ hx
      have HX := Lib.hid hsn; clear hsn hx hox hoy
      go_wp2_with fail
      refine calls_world (fun W => Blk W wr.heap.size 78 #[.int .i64 x, .int .i64 y] ∧ Below wr.heap.size wr W ∧ wr.heap.size + 1 ≤ W.heap.size) ⟨Blk.new _ _ _, (Below.refl _ _).alloc (Nat.le_refl _) _, by simp⟩ ?_
      rintro W ⟨hG, hbW, hsW⟩
      refine (counts_any x y W).mono ?_
      rintro e w2 ⟨rfl, hb2⟩
      have hs2 := hb2.size
      have hG2 := hG.fresh hb2
      have g0 := hG2.cell 0 (v := .int .i64 x) rfl
      have hbl2 : Below w.heap.size w w2 := hbl.trans ((hbW.trans (hb2.mono (by omega))).mono hsz)
      have lt2 : wr.heap.size < w2.heap.size := by omega
      have hs3 : w.heap.size ≤ w2.heap.size := by omega
      clear hG hG2 d0 d1
      cases hc : Liv.counts (x, y) with
      | false =>
        have hsn := HX.out
        rw [hc, if_neg (by decide), ← hkeep.out] at hsn
        have HO := Lib.hid hsn; clear hsn hc hkeep
        go_wp2_with fail
        go_roundg (n - (k + 1))
        case measure => omega
        case rel => exact ⟨k + 1, m, by omega, rfl, by go_num, rfl, HO.out.symm, hbl2, hs3⟩
      | true =>
        have hsn := HX.out
        rw [hc, if_pos rfl, ← hkeep.out] at hsn
        have hsn2 : max m (Liv.over l x) = Liv.most l (l.take (k + 1)) := hsn.symm
        have HO := Lib.hid hsn2; clear hsn hsn2 hc hkeep
        go_wp2_with fail
        refine (over_any B c n (some ⟨b, o, none⟩) x l w2 H.out.2 (H.out.1.below (hbl2.mono hB)) (by omega) hl).mono ?_
        rintro e w3 ⟨rfl, hb3⟩
        obtain ⟨m2, hm2⟩ : ∃ m2, Liv.over l x = m2 := ⟨_, rfl⟩
        rw [hm2]
        have hmo := HO.out
        rw [hm2] at hmo
        have hs4 := hb3.size
        have hbl3 : Below w.heap.size w w3 := hbl2.trans (hb3.mono hs3)
        have HM := Lib.hid hmo; clear hmo hm2
        by_cases hmm : (m : Int) < (m2 : Int)
        · have hmm2 : (m : Int) ≤ (m2 : Int) := by omega
          have hmm3 : ¬ (m2 : Int) ≤ (m : Int) := by omega
          have hmm4 : ¬ (m2 : Int) < (m : Int) := by omega
          go_wp2_with fail
          go_roundg (n - (k + 1))
          case measure => omega
          case rel => exact ⟨k + 1, m2, by omega, rfl, by go_num, rfl, by unfold Hid; rw [← HM.out]; omega, hbl3, by omega⟩
        · have hmm3 : (m2 : Int) ≤ (m : Int) := by omega
          by_cases hme : (m : Int) = (m2 : Int)
          · have hme2 : m = m2 := by omega
            clear hme hmm hmm3
            subst hme2
            go_wp2_with fail
            go_roundg (n - (k + 1))
            case measure => omega
            case rel => exact ⟨k + 1, m, by omega, rfl, by go_num, rfl, by unfold Hid; rw [← HM.out]; omega, hbl3, by omega⟩
          · have hmm2 : ¬ (m : Int) ≤ (m2 : Int) := by omega
            have hmm4 : (m2 : Int) < (m : Int) := by omega
            clear hme
            go_wp2_with fail
            go_roundg (n - (k + 1))
            case measure => omega
            case rel => exact ⟨k + 1, m, by omega, rfl, by go_num, rfl, by unfold Hid; rw [← HM.out]; omega, hbl3, by omega⟩
    · have hfin := hkeep.out
      rw [List.take_of_length_le (by have := H.out.2; omega)] at hfin
      have HF := Lib.hid hfin; clear hfin hkeep
      go_wp2_with fail
      go_ret
      exact ⟨by rw [← HF.out]; rfl, hbl⟩

set_option maxHeartbeats 1600000 in
set_option maxRecDepth 100000 in
theorem most_any (B c n : Nat) (A : Option Addr) (l : List (Int × Int)) (w : World) (hn : l.length = n) (h : At w B A l) (hB : B ≤ w.heap.size) (hl : n ≤ 100000) :
    Calls Try.prog 33 #[.slice A n c] w fun e w' => e = .returned (.int .i64 (Liv.most l l : Nat)) ∧ Below w.heap.size w w' := by
  have H := Lib.hid (And.intro h hn); clear h hn
  go_enter Try.func33, Try.ntmps33
  go_wp2_with fail
  go_loopg [3, 11] (n) (fun gk mv iv wr => ∃ (k m : Nat), k ≤ n ∧ gk = n - k ∧ iv = .int .i64 k ∧ mv = .int .i64 m ∧ Hid (m = Liv.most l (l.take k)) ∧ Below w.heap.size w wr ∧ w.heap.size ≤ wr.heap.size)
  case atStart => exact ⟨0, 0, Nat.zero_le _, rfl, rfl, rfl, rfl, Below.refl _ _, Nat.le_refl _⟩
  case round =>
    obtain ⟨k, m, hk, rfl, rfl, rfl, hkeep, hbl, hsz⟩ := hrel
    by_cases hlt : k < n
    · obtain ⟨b, o, x, y, rfl, hb, hx, hox, hoy, d0, d1⟩ := (H.out.1.below (hbl.mono hB)).pair (by have := H.out.2; omega : k < l.length)
      have hsn := Liv.most_snoc l l k _ hx
      have HX := Lib.hid hsn; clear hsn hx hox hoy
      by_cases hc : 0 ≤ x ∧ x < y
      · obtain ⟨hc1, hc2⟩ := hc
        have hct : Liv.counts (x, y) = true := by simp [Liv.counts, hc1, hc2]
        have hsn := HX.out
        rw [hct, if_pos rfl, ← hkeep.out] at hsn
        have hsn2 : max m (Liv.over l x) = Liv.most l (l.take (k + 1)) := hsn.symm
        have HO := Lib.hid hsn2; clear hsn hsn2 hct hkeep
        have hcn : ¬ x < 0 := by omega
        have hcm : ¬ y ≤ x := by omega
        go_wp2_with fail
        refine wp_world (fun W => Blk W wr.heap.size 78 #[.int .i64 x, .int .i64 y] ∧ Below wr.heap.size wr W ∧ wr.heap.size + 1 ≤ W.heap.size) ⟨Blk.new _ _ _, (Below.refl _ _).alloc (Nat.le_refl _) _, by simp⟩ ?_
        rintro W ⟨hG, hbW, hsW⟩
        have hblW : Below w.heap.size w W := hbl.trans (hbW.mono hsz)
        obtain ⟨wo, rfl⟩ : ∃ wo : World, wo = wr := ⟨_, rfl⟩
        clear d0 d1
        go_loopg [6, 27] (n) (fun gj mv jv wj => ∃ (j q : Nat), j ≤ n ∧ gj = n - j ∧ jv = .int .i64 j ∧ mv = .int .i64 q ∧ q ≤ j ∧ Hid (q = Liv.over (l.take j) x) ∧ Below w.heap.size w wj ∧ Below (wo.heap.size + 1) W wj ∧ w.heap.size ≤ wj.heap.size ∧ wo.heap.size + 1 ≤ wj.heap.size)
        case atStart => exact ⟨0, 0, Nat.zero_le _, rfl, rfl, rfl, Nat.le_refl _, rfl, hblW, Below.refl _ _, by omega, hsW⟩
        case round =>
          obtain ⟨j, q, hj, rfl, rfl, rfl, hqj, hkeep, hblj, hbWj, hsj, hsj2⟩ := hrel
          have hGj : Blk wr wo.heap.size 78 #[.int .i64 x, .int .i64 y] := (hbWj.block _ (by omega)).trans hG
          have g0 := hGj.cell 0 (v := .int .i64 x) rfl
          have ltj : wo.heap.size < wr.heap.size := by omega
          clear hGj
          by_cases hjt : j < n
          · obtain ⟨b', o', x', y', hA', hb', hx', hox', hoy', d0', d1'⟩ := (H.out.1.below (hblj.mono hB)).pair (by have := H.out.2; omega : j < l.length)
            injection hA' with hA'; injection hA' with hA1 hA2 hA3; subst hA1 hA2
            have hsn' := Liv.over_snoc l x j _ hx'
            have HX' := Lib.hid (And.intro hsn' hkeep.out); clear hsn' hx' hox' hoy' hkeep
            have hwr : IntKind.i64.wrap ((q : Int) + 1) = (q : Int) + 1 := IntWalk.i64_in _ (by omega)
            by_cases h1 : 0 ≤ x'
            · by_cases h2 : x' ≤ x
              · by_cases h3 : x < y'
                · have hov : Liv.overs x (x', y') = true := by unfold Liv.overs Liv.counts; simp [h1, h2, h3]; omega
                  have HO' := Lib.hid hov; clear hov
                  go_wp2_with fail
                  go_roundg (n - (j + 1))
                  case measure => omega
                  case rel => exact ⟨j + 1, q + 1, by omega, rfl, by go_num, by simp, by omega, by unfold Hid; rw [HX'.out.1, HO'.out, ← HX'.out.2]; rfl, hblj.alloc hsj _, hbWj.alloc hsj2 _, by simp; omega, by simp; omega⟩
                · have hov : Liv.overs x (x', y') = false := by unfold Liv.overs; simp [h3]
                  have HO' := Lib.hid hov; clear hov
                  go_wp2_with fail
                  go_roundg (n - (j + 1))
                  case measure => omega
                  case rel => exact ⟨j + 1, q, by omega, rfl, by go_num, rfl, by omega, by unfold Hid; rw [HX'.out.1, HO'.out, ← HX'.out.2]; rfl, hblj.alloc hsj _, hbWj.alloc hsj2 _, by simp; omega, by simp; omega⟩
              · have hov : Liv.overs x (x', y') = false := by unfold Liv.overs; simp [h2]
                have HO' := Lib.hid hov; clear hov
                go_wp2_with fail
                go_roundg (n - (j + 1))
                case measure => omega
                case rel => exact ⟨j + 1, q, by omega, rfl, by go_num, rfl, by omega, by unfold Hid; rw [HX'.out.1, HO'.out, ← HX'.out.2]; rfl, hblj.alloc hsj _, hbWj.alloc hsj2 _, by simp; omega, by simp; omega⟩
            · have hov : Liv.overs x (x', y') = false := by unfold Liv.overs Liv.counts; simp [h1]
              have HO' := Lib.hid hov; clear hov
              go_wp2_with fail
              go_roundg (n - (j + 1))
              case measure => omega
              case rel => exact ⟨j + 1, q, by omega, rfl, by go_num, rfl, by omega, by unfold Hid; rw [HX'.out.1, HO'.out, ← HX'.out.2]; rfl, hblj.alloc hsj _, hbWj.alloc hsj2 _, by simp; omega, by simp; omega⟩
          · have hfin := hkeep.out
            rw [List.take_of_length_le (by have := H.out.2; omega)] at hfin
            have hmo := HO.out
            rw [← hfin] at hmo
            have HM := Lib.hid hmo; clear hmo hfin hkeep
            by_cases hmm : (m : Int) < (q : Int)
            · have hmm2 : (m : Int) ≤ (q : Int) := by omega
              have hmm3 : ¬ (q : Int) ≤ (m : Int) := by omega
              have hmm4 : ¬ (q : Int) < (m : Int) := by omega
              go_wp2_with fail
              go_roundg (n - (k + 1))
              case measure => omega
              case rel => exact ⟨k + 1, q, by omega, rfl, by go_num, rfl, by unfold Hid; rw [← HM.out]; omega, hblj, hsj⟩
            · have hmm3 : (q : Int) ≤ (m : Int) := by omega
              by_cases hme : (m : Int) = (q : Int)
              · have hme2 : m = q := by omega
                clear hme hmm hmm3
                subst hme2
                go_wp2_with fail
                go_roundg (n - (k + 1))
                case measure => omega
                case rel => exact ⟨k + 1, m, by omega, rfl, by go_num, rfl, by unfold Hid; rw [← HM.out]; omega, hblj, hsj⟩
              · have hmm2 : ¬ (m : Int) ≤ (q : Int) := by omega
                have hmm4 : (q : Int) < (m : Int) := by omega
                clear hme
                go_wp2_with fail
                go_roundg (n - (k + 1))
                case measure => omega
                case rel => exact ⟨k + 1, m, by omega, rfl, by go_num, rfl, by unfold Hid; rw [← HM.out]; omega, hblj, hsj⟩
      · have hcf : Liv.counts (x, y) = false := by
          unfold Liv.counts; rw [Bool.and_eq_false_iff]
          by_cases h1 : 0 ≤ x
          · right; simp; omega
          · left; simp; omega
        have hsn := HX.out
        rw [hcf, if_neg (by decide), ← hkeep.out] at hsn
        have HO := Lib.hid hsn; clear hsn hcf hkeep
        by_cases h1 : x < 0
        · clear hc
          go_wp2_with fail
          go_roundg (n - (k + 1))
          case measure => omega
          case rel => exact ⟨k + 1, m, by omega, rfl, by go_num, rfl, HO.out.symm, hbl.alloc hsz _, by simp; omega⟩
        · have h2 : y ≤ x := by omega
          clear hc
          go_wp2_with fail
          go_roundg (n - (k + 1))
          case measure => omega
          case rel => exact ⟨k + 1, m, by omega, rfl, by go_num, rfl, HO.out.symm, hbl.alloc hsz _, by simp; omega⟩
    · have hfin := hkeep.out
      rw [List.take_of_length_le (by have := H.out.2; omega)] at hfin
      have HF := Lib.hid hfin; clear hfin hkeep
      go_wp2_with fail
      go_ret
      exact ⟨by rw [← HF.out]; rfl, hbl⟩

end Go.Proofs.Ytljdnadejmkaeaa
