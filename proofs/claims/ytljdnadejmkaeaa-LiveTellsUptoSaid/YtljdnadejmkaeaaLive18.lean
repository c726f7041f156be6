/- The closed fact 'lived'; the law LiveMost, walked. -/
import Derived.Test.YtljdnadejmkaeaaLive17
namespace Go.Proofs.Ytljdnadejmkaeaa
open Go.RowKit

def ti0 : TI := ⟨3, -1, -1, -1, 0, -1, (0, 0)⟩
def exZ : Ex := ⟨0, 0, [], []⟩
def exB : Ex := ⟨0, 0, [(0, 0)], []⟩
theorem lived_fault : Liv.fault [ti0] [] exZ exB 0 = 0 := by decide +kernel
theorem lived_spans : Liv.spans [ti0] [] exZ exB 0 = [(0, 1)] := by decide +kernel

theorem eqRSpan_n (A A' : Option Addr) (c c' B n n' : Nat) (l r : List (Int × Int)) (w : World) (hn : l.length = n) (hn' : r.length = n') (h : At w B A l) (h' : At w B A' r) (hB : B ≤ w.heap.size) (hl : n ≤ 9223372036854775807) (hr : n' ≤ 9223372036854775807) :
    Calls Try.prog 60 #[.slice A n c, .slice A' n' c'] w fun e w' => e = .returned (.bool (decide (l = r))) ∧ Below w.heap.size w w' := by
  subst hn hn'; exact eqRSpan_any A A' c c' B l r w h h' hB hl hr

def tiRaw (x : TI) : Raw 8 := ⟨[.int .i64 x.op, .int .i64 x.a, .int .i64 x.b, .int .i64 x.c, .int .i64 x.n, .int .i64 x.exit, .int .i64 x.k.1, .int .i64 x.k.2], rfl, by intro u hu; simp at hu; rcases hu with rfl | rfl | rfl | rfl | rfl | rfl | rfl | rfl <;> rfl⟩
theorem nil_rd {α : Type} [Enc α] (w : World) (B : Nat) : Enc.rd w B [.slice none 0 0] ([] : List α) := ⟨none, 0, rfl, Nat.le_refl _, by simp [maxLen], fun _ => rfl, At.nil_⟩

theorem ti0_rd (w : World) (B : Nat) : Enc.rd w B (tiRaw ti0).cs ti0 := ⟨rfl, ⟨by decide, by decide⟩, ⟨by decide, by decide⟩, ⟨by decide, by decide⟩, ⟨by decide, by decide⟩, ⟨by decide, by decide⟩, ⟨by decide, by decide⟩, ⟨by decide, by decide⟩, ⟨by decide, by decide⟩⟩
theorem lived_tr (w : World) (o : Obj) : TrAt (((w.alloc (.cells #[.int .i64 3, .int .i64 (-1), .int .i64 (-1), .int .i64 (-1), .int .i64 0, .int .i64 (-1), .int .i64 0, .int .i64 0] 121)).alloc (.cells #[.int .i64 0, .int .i64 0] 38)).alloc o)
    (((w.alloc (.cells #[.int .i64 3, .int .i64 (-1), .int .i64 (-1), .int .i64 (-1), .int .i64 0, .int .i64 (-1), .int .i64 0, .int .i64 0] 121)).alloc (.cells #[.int .i64 0, .int .i64 0] 38)).alloc o).heap.size
    [ti0] [] exZ exB (some ⟨w.heap.size, 0, none⟩) none none 0 none 0 (some ⟨w.heap.size + 1, 0, none⟩) 1 none 0 := by
  have hti := At.built w #[.int .i64 3, .int .i64 (-1), .int .i64 (-1), .int .i64 (-1), .int .i64 0, .int .i64 (-1), .int .i64 0, .int .i64 0] 121 [tiRaw ti0] rfl (fun _ _ => trivial)
  have hti2 := at_unraw (α := TI) (xs := [ti0]) rfl hti rfl (fun i r x hr hx => by
      cases i with
      | zero => simp at hr hx; subst hr hx; exact ti0_rd _ _
      | succ i => simp at hr)
  have hpr := At.built (w.alloc (.cells #[.int .i64 3, .int .i64 (-1), .int .i64 (-1), .int .i64 (-1), .int .i64 0, .int .i64 (-1), .int .i64 0, .int .i64 0] 121)) #[.int .i64 0, .int .i64 0] 38 [((0 : Int), (0 : Int))] rfl (by intro z hz; simp at hz; subst hz; exact ⟨⟨by decide, by decide⟩, ⟨by decide, by decide⟩⟩)
  rw [World.size_alloc w] at hpr
  have hp2 := hpr.alloc (by simp) o
  refine ⟨(((hti2.alloc (by simp) _).alloc (by simp) _).more (by simp)), At.nil_, ⟨.slice none 0 0, .slice none 0 0, rfl, ⟨by decide, by decide⟩, ⟨by decide, by decide⟩, nil_rd _ _, nil_rd _ _⟩,
    ⟨.slice (some ⟨w.heap.size + 1, 0, none⟩) 1 1, .slice none 0 0, rfl, ⟨by decide, by decide⟩, ⟨by decide, by decide⟩, ⟨_, 1, rfl, by decide, by simp [maxLen], by simp, hp2.more (by simp)⟩, nil_rd _ _⟩⟩

set_option maxRecDepth 100000 in
theorem lived_any (w : World) : Calls Try.prog 28 #[] w fun e w' => e = .returned (.bool true) ∧ Below w.heap.size w w' := by
  go_enter Try.func28, Try.ntmps28
  go_wp2_with fail
  refine calls_world (fun W => TrAt W W.heap.size [ti0] [] exZ exB (some ⟨w.heap.size, 0, none⟩) none none 0 none 0 (some ⟨w.heap.size + 1, 0, none⟩) 1 none 0 ∧ Below w.heap.size w W ∧ w.heap.size ≤ W.heap.size) ⟨?_, ?_, by simp; omega⟩ ?_
  · exact lived_tr w _
  · exact (((Below.refl _ _).alloc (Nat.le_refl _) _).alloc (by simp) _).alloc (by simp; omega) _
  rintro W ⟨hT, hb0, hs0⟩
  refine (lspans_any W.heap.size 1 0 0 0 1 0 _ _ _ _ _ _ 0 0 0 [ti0] [] exZ exB W hT (Nat.le_refl _) (by simp) (by simp) (by simp) (by simp [Liv.vals, exZ]) (by simp [Liv.vals, exB])).mono ?_
  rintro e w1 ⟨hb1, hp⟩
  rw [lived_fault, lived_spans] at hp
  rcases hp with ⟨-, g, c, rfl, hown⟩ | ⟨h, -⟩
  rotate_left
  · exact absurd rfl h
  have hs1 := hb1.size
  have hat := hown.at_ (by intro z hz; simp at hz; subst hz; exact ⟨⟨by decide, by decide⟩, ⟨by decide, by decide⟩⟩)
  have HA := Lib.hid hat; clear hat hown hT
  go_wp2_with fail
  refine calls_world (fun W2 => At W2 W2.heap.size (some ⟨g, 0, none⟩) [((0 : Int), (1 : Int))] ∧ At W2 W2.heap.size (some ⟨w1.heap.size, 0, none⟩) [((0 : Int), (1 : Int))] ∧ Below w.heap.size w W2) ⟨?_, ?_, ?_⟩ ?_
  · exact (HA.out.alloc (Nat.le_refl _) _).more (by simp)
  · exact (At.built w1 #[.int .i64 0, .int .i64 1] 78 [((0 : Int), (1 : Int))] rfl (by intro z hz; simp at hz; subst hz; exact ⟨⟨by decide, by decide⟩, ⟨by decide, by decide⟩⟩)).more (by simp)
  · exact (hb0.trans (hb1.mono hs0)).alloc (by omega) _
  rintro W2 ⟨hA1, hA2, hb2⟩
  refine (eqRSpan_n _ _ c 1 W2.heap.size 1 1 _ _ W2 rfl rfl hA1 hA2 (Nat.le_refl _) (by omega) (by omega)).mono ?_
  rintro e w3 ⟨rfl, hb3⟩
  go_wp2_with fail
  go_ret
  exact ⟨rfl, hb2.trans (hb3.mono hb2.size)⟩

theorem at_take {α : Type} [Enc α] {w : World} {B : Nat} {A : Option Addr} {l : List α} (h : At w B A l) (n : Nat) : At w B A (l.take n) := fun i x hx => by
  rw [List.getElem?_take] at hx
  split at hx
  · exact h i x hx
  · cases hx

set_option maxRecDepth 100000 in
theorem liveMost_any (A : Option Addr) (c B : Nat) (l : List (Int × Int)) (w : World) (h : At w B A l) (hB : B ≤ w.heap.size) (hl : l.length ≤ 9223372036854775807) (hc : l.length ≤ c) :
    Calls Try.prog 8 #[.slice A l.length c] w fun e w' => e = .returned (.bool true) ∧ Below w.heap.size w w' := by
  obtain ⟨n, hn⟩ : ∃ n, n = min l.length 60 := ⟨_, rfl⟩
  have hmin : min (l.length : Int) 60 = (n : Int) := by omega
  have htl : (l.take 60).length = n := by rw [List.length_take]; omega
  have H := Lib.hid (And.intro (at_take h 60) htl); clear h htl
  have hn1 : n ≤ l.length := by omega
  have hn2 : n ≤ c := by omega
  have hn3 : n ≤ 60 := by omega
  clear hn
  generalize l.take 60 = l' at H
  go_enter Try.func8, Try.ntmps8
  go_wp2_with fail
  refine (lived_any w).mono ?_
  rintro e w1 ⟨rfl, hb1⟩
  have hs1 := hb1.size
  go_wp2_with fail
  refine (most_any B c n A l' w1 H.out.2 (H.out.1.below (hb1.mono hB)) (by omega) (by omega)).mono ?_
  rintro e w2 ⟨rfl, hb2⟩
  have hs2 := hb2.size
  go_wp2_with fail
  refine (mostOver_any B c n A l' w2 H.out.2 ((H.out.1.below (hb1.mono hB)).below (hb2.mono (by omega))) (by omega) (by omega)).mono ?_
  rintro e w3 ⟨rfl, hb3⟩
  go_wp2_with fail
  go_ret
  exact ⟨ret_bool (by simp), (hb1.trans (hb2.mono hs1)).trans (hb3.mono (by omega))⟩

end Go.Proofs.Ytljdnadejmkaeaa
