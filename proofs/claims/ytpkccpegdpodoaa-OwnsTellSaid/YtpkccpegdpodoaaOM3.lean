/- OM: OwE, EndL, OwF, OwnS, OwK, HeldIn, OwL, Weak4. -/
import Derived.Test.YtpkccpegdpodoaaOM1
import Derived.Test.YtpkccpegdpodoaaOM2
import Derived.Lib.SlicesCompact
import Derived.RangeFuncNested
import Derived.RangeFuncBound
import Derived.RangeFuncCalls
import Derived.RangeFuncLeaves
import Derived.Shelf.Abstract
import Derived.Shelf.RegionOpen
import Derived.WalkKit
import Derived.OwnWalkIn
import Derived.TacticsInMore
import Derived.LoopNIn
import Derived.LoopIn
import Derived.OrdersIn
import Derived.Shelf.GgClosure.Gives
/- owns.doms: its tree is laid. -/
namespace Go.Proofs.Ytpkccpegdpodoaa
open Go.RowKit

attribute [local go_sem ↓] Go.wp_at_zero Go.wp_at_succ

theorem madeNils (n : Nat) : (madeCells #[.slice none 0 0] n).toList = flat (List.replicate n (⟨none, 0, []⟩ : SlR)) := by
  apply List.ext_getElem?
  intro i
  have e : flat (List.replicate n (⟨none, 0, []⟩ : SlR)) = List.replicate n (Value.slice none 0 0) := by
    induction n with
    | zero => rfl
    | succ n ih => rw [List.replicate_succ, flat_cons, ih, List.replicate_succ]; rfl
  rw [e]
  simp only [madeCells, Array.toList_map, Array.toList_range, List.getElem?_map, List.getElem?_replicate]
  by_cases h : i < n
  · simp [h, Nat.mod_one]
  · simp [h]
theorem own_mades (w : World) (base : Nat) (e : TypeId) (n : Nat) {g : Nat} (hg : g = w.heap.size) (hb : base ≤ w.heap.size) (hn : n ≤ maxLen) : Own (w.alloc (.cells (madeCells #[.slice none 0 0] n) e)) base e (some ⟨g, 0, none⟩) n (List.replicate n (⟨none, 0, []⟩ : SlR)) := by
  subst hg
  refine ⟨flat_length _, .inr ⟨w.heap.size, n, madeCells #[.slice none 0 0] n, by rw [List.length_replicate], hb, heap_alloc_new w _, by simp, hn, by simp [size_madeCells, Flat.sz], ?_⟩⟩
  rw [← madeNils, List.take_of_length_le (by simp [size_madeCells, Flat.sz])]
theorem at_of_blk {w : World} {B g : Nat} {t : TypeId} {v : Int} (h : Blk w g t #[.int .i64 v]) (hB : g < B) (hv : I64 v) : At w B (some ⟨g, 0, none⟩) [v] := by
  intro i x hx
  match i, hx with
  | 0, hx =>
    simp at hx; subst hx
    refine ⟨g, 0, [.int .i64 v], rfl, hB, fun j u hu => ?_, rfl, hv⟩
    have hj : j = 0 := by have := (List.getElem?_eq_some_iff.1 hu).1; simp at this; exact this
    subst hj
    simp at hu; subst hu
    exact h.cell 0 rfl
  | i + 1, hx => simp at hx
theorem at_blk {w : World} {g : Nat} {t : TypeId} {v : Int} (h : Blk w g t #[.int .i64 v]) (hv : I64 v) : At w w.heap.size (some ⟨g, 0, none⟩) [v] := at_of_blk h h.lt hv
theorem size_drew (w : World) : w.drew.heap.size = w.heap.size := rfl
theorem own_mv {α : Type} [Flat α] {w : World} {base b : Nat} {e : TypeId} {g g' c : Nat} {l : List α} (h : Own w b e (some ⟨g', 0, none⟩) c l) (hg : g = g') (hb : base ≤ b) : Own w base e (some ⟨g, 0, none⟩) c l := by subst hg; exact h.base_le hb
theorem tr_new {W : World} {base T gA gB gM N : Nat} {hv rv : Value} (hT : Blk W T 175 #[hv, rv, .slice (some ⟨gA, 0, none⟩) N N, .slice none 0 0, .slice (some ⟨gM, 0, none⟩) N N, .slice (some ⟨gB, 0, none⟩) N N])
    (hA : Own W base 3 (some ⟨gA, 0, none⟩) N (List.replicate N (-2 : Int))) (hM : Own W base 47 (some ⟨gM, 0, none⟩) N (List.replicate N (⟨none, 0, []⟩ : SlR))) (hB : Own W base 3 (some ⟨gB, 0, none⟩) N (List.replicate N (-2 : Int))) (hne : gA ≠ gB) (hb : base ≤ T) :
    TrS W base T hv rv (List.replicate N (-2)) ⟨List.replicate N (-2), [], List.replicate N []⟩ := by
  have h2 : ∀ k ∈ List.replicate N (-2 : Int), I64 k := fun k hk => by rw [List.mem_replicate] at hk; obtain ⟨-, rfl⟩ := hk; exact ⟨by omega, by omega⟩
  refine ⟨⟨some ⟨gA, 0, none⟩, N, List.replicate N (-2)⟩, ⟨none, 0, []⟩, ⟨some ⟨gB, 0, none⟩, N, List.replicate N (-2)⟩, some ⟨gM, 0, none⟩, N, List.replicate N ⟨none, 0, []⟩, ⟨?_, ⟨fun i y hy => ?_, fun i j y z hij hy hz g hg1 hg2 => ?_⟩, hM, hb⟩, rfl, rfl, by simp, rfl⟩
  · simpa using hT
  · match i, hy with
    | 0, hy => simp at hy; subst hy; exact ⟨hA, h2⟩
    | 1, hy => simp at hy; subst hy; exact ⟨Own.nil_, fun k hk => by simp at hk⟩
    | 2, hy => simp at hy; subst hy; exact ⟨hB, h2⟩
    | i + 3, hy =>
      simp only [List.getElem?_cons_succ, List.getElem?_replicate] at hy
      split at hy
      · injection hy with hy; subst hy; exact ⟨Own.nil_, fun k hk => by simp at hk⟩
      · cases hy
  · have key : ∀ (i : Nat) (y : SlR), ((⟨some ⟨gA, 0, none⟩, N, List.replicate N (-2)⟩ : SlR) :: ⟨none, 0, []⟩ :: ⟨some ⟨gB, 0, none⟩, N, List.replicate N (-2)⟩ :: List.replicate N ⟨none, 0, []⟩)[i]? = some y → rowOf y.A = some g → (i = 0 ∧ g = gA) ∨ (i = 2 ∧ g = gB) := fun i y hy hg => by
      match i, hy with
      | 0, hy => simp at hy; subst hy; left; exact ⟨rfl, by injection hg with hg; exact hg.symm⟩
      | 1, hy => simp at hy; subst hy; cases hg
      | 2, hy => simp at hy; subst hy; right; exact ⟨rfl, by injection hg with hg; exact hg.symm⟩
      | i + 3, hy =>
        simp only [List.getElem?_cons_succ, List.getElem?_replicate] at hy
        split at hy
        · injection hy with hy; subst hy; cases hg
        · cases hy
    rcases key i y hy hg1 with ⟨h1, h2⟩ | ⟨h1, h2⟩ <;> rcases key j z hz hg2 with ⟨h3, h4⟩ | ⟨h3, h4⟩ <;> omega

theorem w_start {has : List (List Int)} {roots : List Int} : WInv has roots ⟨List.replicate has.length (-2), [], List.replicate has.length []⟩ ∧ (∀ k, ¬ WS.grey ⟨List.replicate has.length (-2), [], List.replicate has.length []⟩ k) ∧ tot (List.replicate has.length ([] : List Int)) = 0 := by
  have hno : ∀ k, ¬ WS.vis ⟨List.replicate has.length (-2), [], List.replicate has.length []⟩ k := fun k hk => by
    have hk : (List.replicate has.length (-2 : Int))[k]? = some (-1) := hk
    rw [List.getElem?_replicate] at hk; split at hk
    · injection hk with hk; omega
    · cases hk
  have hfr : ∀ (k : Nat) fl, (List.replicate has.length ([] : List Int))[k]? = some fl → fl = [] := fun k fl h => by
    rw [List.getElem?_replicate] at h; split at h
    · injection h with h; exact h.symm
    · cases h
  refine ⟨⟨by simp, by simp, fun k v hk => ?_, List.nodup_nil, fun x hx => by simp at hx, fun n k l hn => by simp at hn, fun k fl x hk hx => ?_, fun k hk => absurd hk (hno k), fun k hk => by simp at hk⟩, fun k hk => hno k hk.1, ?_⟩
  · have hk : (List.replicate has.length (-2 : Int))[k]? = some v := hk
    rw [List.getElem?_replicate] at hk; split at hk
    · injection hk with hk; exact .inl hk.symm
    · cases hk
  · rw [hfr k fl hk] at hx; simp at hx
  · unfold tot; induction has.length with
    | zero => rfl
    | succ n ih => rw [List.replicate_succ, List.map_cons, List.sum_cons, ih]; rfl

set_option maxHeartbeats 12800000 in
set_option maxRecDepth 100000 in
theorem doms_any (B hc rc rn : Nat) (HA RA : Option Addr) (has : List (List Int)) (roots : List Int) (w : World) (hh : At w B HA has) (hro : At w B RA roots) (hB : B ≤ w.heap.size) (hr : Right has) (hs : RightL has.length roots) (hN : has.length ≤ 100) (hrn : roots.length = rn) (hrl : rn ≤ 100) (hl10 : ∀ l ∈ has, l.length ≤ 10) :
    Calls Try.prog 119 #[.agg #[.slice HA has.length hc, .slice RA rn rc]] w fun e w' => (∃ (T : Nat) (PL ORD : List Int) (FR : List (List Int)) (d : List Int), e = .returned (.pointer (some ⟨T, 0, none⟩)) ∧ Rd has roots PL ORD FR ∧ TrD w' w.heap.size T (.slice HA has.length hc) (.slice RA rn rc) PL ORD FR d ∧ DvG has roots ORD d 0 ∧ (∀ m, Vn has roots m → d[m]? ≠ some (-2)) ∧ ∀ m, Vn has roots m → FixAt has roots d m) ∧ Below w.heap.size w w' := by
  obtain ⟨i0, hi, hz0, hz1, hz2⟩ := info_parts infoInt
  obtain ⟨N, hNe⟩ : ∃ N, has.length = N := ⟨_, rfl⟩
  have hmk := Go.run_make_row' (P := Try.prog) 46 47 (.slice none 0 0) 24 Try.underlying46 infoIntsG rfl .i64 .i64 N (by omega) (by omega)
  have HH := Lib.hid (And.intro hh (And.intro hro (And.intro hr (And.intro hs (And.intro hl10 (And.intro hNe hrn)))))); clear hh hro hr hs hl10 hrn
  rw [hNe]
  have hN' : N ≤ 100 := by omega
  clear hNe hN
  go_enter Try.func119, Try.ntmps119
  go_upto_region 2 with fail
  refine wp_world (fun W => Blk W w.heap.size 49 #[.slice HA N hc, .slice RA rn rc] ∧ Below w.heap.size w W ∧ W.heap.size = w.heap.size + 1) ⟨Blk.new _ _ _, (Below.refl _ _).alloc (Nat.le_refl _) _, by simp⟩ ?_
  rintro W ⟨hG, hb0, hs0⟩
  have g0 := hG.cell 0 (v := .slice HA N hc) rfl
  have g1 := hG.cell 1 (v := .slice RA rn rc) rfl
  have HG := Lib.hid hG; clear hG
  go_cut [4] from 12 to 22 (fun tv W2 => ∃ T, tv = .pointer (some ⟨T, 0, none⟩) ∧ Hid (TrS W2 w.heap.size T (.slice HA N hc) (.slice RA rn rc) (List.replicate N (-2)) ⟨List.replicate N (-2), [], List.replicate N []⟩ ∧ Blk W2 w.heap.size 49 #[.slice HA N hc, .slice RA rn rc]) ∧ Below w.heap.size w W2)
  case first =>
    have GX : Blk W.drew w.heap.size 49 #[.slice HA N hc, .slice RA rn rc] := HG.out.drew
    have GLt := GX.lt
    have hsd : W.drew.heap.size = w.heap.size + 1 := hs0
    refine wp_region_held_drew (S := (fun w' => w'.cell? ⟨w.heap.size, 0, none⟩ = some (.slice HA N hc) ∧ w'.cell? ⟨w.heap.size, 1, none⟩ = some (.slice RA rn rc))) (by kernel_rfl) ?_ (fun hHeld0 => ?_)
    · first | trivial | ((try dsimp only); (first | exact ⟨GX.cell 0 rfl, GX.cell 1 rfl⟩ | exact ⟨(GX.alloc _).cell 0 rfl, (GX.alloc _).cell 1 rfl⟩ | exact ⟨((GX.alloc _).alloc _).cell 0 rfl, ((GX.alloc _).alloc _).cell 1 rfl⟩ | exact ⟨(((GX.alloc _).alloc _).alloc _).cell 0 rfl, (((GX.alloc _).alloc _).alloc _).cell 1 rfl⟩))
    refine held_take (v := ?_) 0 rfl (by kernel_rfl) (by kernel_rfl) (by kernel_rfl) (fun _ _ _ h => h) (by rfl) ?_ (by assumption) ?_
    rotate_left
    · (intro w hSw; (try dsimp only at hSw); go_simp; try with_reducible rfl)
    try simp only [Act.put, List.setIfInBounds_toArray, List.set_cons_zero, List.set_cons_succ]
    refine held_take (v := ?_) 2 rfl (by kernel_rfl) (by kernel_rfl) (by kernel_rfl) (fun _ _ _ h => h) (by rfl) ?_ (by assumption) ?_
    rotate_left
    · (intro w hSw; (try dsimp only at hSw); go_simp; try with_reducible rfl)
    try simp only [Act.put, List.setIfInBounds_toArray, List.set_cons_zero, List.set_cons_succ]
    refine held_take (v := ?_) 4 rfl (by kernel_rfl) (by kernel_rfl) (by kernel_rfl) (fun _ _ _ h => h) (by rfl) ?_ (by assumption) ?_
    rotate_left
    · (intro w hSw; (try dsimp only at hSw); go_simp; try with_reducible rfl)
    try simp only [Act.put, List.setIfInBounds_toArray, List.set_cons_zero, List.set_cons_succ]
    refine held_take (v := ?_) 7 rfl (by kernel_rfl) (by kernel_rfl) (by kernel_rfl) (fun _ _ _ h => h) (by rfl) ?_ (by assumption) ?_
    rotate_left
    · (intro w hSw; (try dsimp only at hSw); go_simp; try with_reducible rfl)
    try simp only [Act.put, List.setIfInBounds_toArray, List.set_cons_zero, List.set_cons_succ]
    refine held_call3 1 5 6 (by kernel_rfl) rfl rfl rfl (fun K hK => ?_) (fun K hK => ?_) (fun K hK => ?_)
    · go_simp
      refine hK.out _ _ ?_ (fun hHeld1 => ?_)
      · first | trivial | ((try dsimp only); (first | exact ⟨GX.cell 0 rfl, GX.cell 1 rfl⟩ | exact ⟨(GX.alloc _).cell 0 rfl, (GX.alloc _).cell 1 rfl⟩ | exact ⟨((GX.alloc _).alloc _).cell 0 rfl, ((GX.alloc _).alloc _).cell 1 rfl⟩ | exact ⟨(((GX.alloc _).alloc _).alloc _).cell 0 rfl, (((GX.alloc _).alloc _).alloc _).cell 1 rfl⟩))
      clear hK K hHeld0
      try simp only [Act.put, List.setIfInBounds_toArray, List.set_cons_zero, List.set_cons_succ]
      refine held_call3 3 5 6 (by kernel_rfl) rfl rfl rfl (fun K hK => ?_) (fun K hK => ?_) (fun K hK => ?_)
      · go_simp
        go_at_call 171; refine (repeatInt_any _ 1 _ N (-2) _ (at_blk (t := 3) (by (first | (refine Blk.at_ _ _ _ ?_; (first | omega | (simp only [World.size_alloc, size_drew] <;> omega))) | (refine Blk.alloc (Blk.at_ _ _ _ ?_) _; (first | omega | (simp only [World.size_alloc, size_drew] <;> omega))) | (refine Blk.alloc (Blk.alloc (Blk.at_ _ _ _ ?_) _) _; (first | omega | (simp only [World.size_alloc, size_drew] <;> omega))))) ⟨by omega, by omega⟩) (Nat.le_refl _) (Nat.le_refl _) hN').mono ?_; rintro e wA ⟨rfl, hoA, hbA⟩; have GY := Blk.fresh (w' := wA) (by (first | exact GX | exact GX.alloc _ | exact (GX.alloc _).alloc _ | exact ((GX.alloc _).alloc _).alloc _)) hbA; clear GX; have GX := GY; clear GY; have sA := hbA.size; try simp only [World.size_alloc, size_drew] at sA
        try (go_wp2_with fail)
        refine hK.out _ _ ?_ (fun hHeld2 => ?_)
        · first | trivial | ((try dsimp only); (first | exact ⟨GX.cell 0 rfl, GX.cell 1 rfl⟩ | exact ⟨(GX.alloc _).cell 0 rfl, (GX.alloc _).cell 1 rfl⟩ | exact ⟨((GX.alloc _).alloc _).cell 0 rfl, ((GX.alloc _).alloc _).cell 1 rfl⟩ | exact ⟨(((GX.alloc _).alloc _).alloc _).cell 0 rfl, (((GX.alloc _).alloc _).alloc _).cell 1 rfl⟩))
        clear hK K hHeld1
        try simp only [Act.put, List.setIfInBounds_toArray, List.set_cons_zero, List.set_cons_succ]
        refine held_call2 5 6 (by kernel_rfl) rfl rfl (fun K hK => ?_) (fun K hK => ?_)
        · go_simp
          refine hK.out _ _ ?_ (fun hHeld3 => ?_)
          · first | trivial | ((try dsimp only); (first | exact ⟨GX.cell 0 rfl, GX.cell 1 rfl⟩ | exact ⟨(GX.alloc _).cell 0 rfl, (GX.alloc _).cell 1 rfl⟩ | exact ⟨((GX.alloc _).alloc _).cell 0 rfl, ((GX.alloc _).alloc _).cell 1 rfl⟩ | exact ⟨(((GX.alloc _).alloc _).alloc _).cell 0 rfl, (((GX.alloc _).alloc _).alloc _).cell 1 rfl⟩))
          clear hK K hHeld2
          try simp only [Act.put, List.setIfInBounds_toArray, List.set_cons_zero, List.set_cons_succ]
          refine held_call 6 (by kernel_rfl) rfl (fun K hK => ?_)
          go_simp
          refine hK.out _ _ ?_ (fun hHeld4 => ?_)
          · first | trivial | ((try dsimp only); (first | exact ⟨GX.cell 0 rfl, GX.cell 1 rfl⟩ | exact ⟨(GX.alloc _).cell 0 rfl, (GX.alloc _).cell 1 rfl⟩ | exact ⟨((GX.alloc _).alloc _).cell 0 rfl, ((GX.alloc _).alloc _).cell 1 rfl⟩ | exact ⟨(((GX.alloc _).alloc _).alloc _).cell 0 rfl, (((GX.alloc _).alloc _).alloc _).cell 1 rfl⟩))
          clear hK K hHeld3
          try simp only [Act.put, List.setIfInBounds_toArray, List.set_cons_zero, List.set_cons_succ]
          refine held_call 8 (by kernel_rfl) rfl (fun K hK => ?_)
          go_simp
          go_at_call 171; refine (repeatInt_any _ 1 _ N (-2) _ (at_blk (t := 3) (by first | (first | (refine Blk.at_ _ _ _ ?_; (first | omega | (simp only [World.size_alloc, size_drew] <;> omega))) | (refine Blk.alloc (Blk.at_ _ _ _ ?_) _; (first | omega | (simp only [World.size_alloc, size_drew] <;> omega))) | (refine Blk.alloc (Blk.alloc (Blk.at_ _ _ _ ?_) _) _; (first | omega | (simp only [World.size_alloc, size_drew] <;> omega)))) | (refine Blk.fresh ?_ hbA; (first | (refine Blk.at_ _ _ _ ?_; (first | omega | (simp only [World.size_alloc, size_drew] <;> omega))) | (refine Blk.alloc (Blk.at_ _ _ _ ?_) _; (first | omega | (simp only [World.size_alloc, size_drew] <;> omega))) | (refine Blk.alloc (Blk.alloc (Blk.at_ _ _ _ ?_) _) _; (first | omega | (simp only [World.size_alloc, size_drew] <;> omega))))) | (refine Blk.alloc (Blk.fresh ?_ hbA) _; (first | (refine Blk.at_ _ _ _ ?_; (first | omega | (simp only [World.size_alloc, size_drew] <;> omega))) | (refine Blk.alloc (Blk.at_ _ _ _ ?_) _; (first | omega | (simp only [World.size_alloc, size_drew] <;> omega))) | (refine Blk.alloc (Blk.alloc (Blk.at_ _ _ _ ?_) _) _; (first | omega | (simp only [World.size_alloc, size_drew] <;> omega)))))) ⟨by omega, by omega⟩) (Nat.le_refl _) (Nat.le_refl _) hN').mono ?_; rintro e wB ⟨rfl, hoB, hbB⟩; have GY := Blk.fresh (w' := wB) (by (first | exact GX | exact GX.alloc _ | exact (GX.alloc _).alloc _ | exact ((GX.alloc _).alloc _).alloc _)) hbB; clear GX; have GX := GY; clear GY; have sB := hbB.size; try simp only [World.size_alloc, size_drew] at sB
          try (go_wp2_with fail)
          refine hK.out _ _ ?_ (fun hHeld5 => ?_)
          · first | trivial | ((try dsimp only); (first | exact ⟨GX.cell 0 rfl, GX.cell 1 rfl⟩ | exact ⟨(GX.alloc _).cell 0 rfl, (GX.alloc _).cell 1 rfl⟩ | exact ⟨((GX.alloc _).alloc _).cell 0 rfl, ((GX.alloc _).alloc _).cell 1 rfl⟩ | exact ⟨(((GX.alloc _).alloc _).alloc _).cell 0 rfl, (((GX.alloc _).alloc _).alloc _).cell 1 rfl⟩))
          clear hK K hHeld4
          try simp only [Act.put, List.setIfInBounds_toArray, List.set_cons_zero, List.set_cons_succ]
          refine held_take (v := ?_) 9 rfl (by kernel_rfl) (by kernel_rfl) (by kernel_rfl) (fun _ _ _ h => h) (by rfl) ?_ (by assumption) ?_
          rotate_left
          · (intro w hSw; (try dsimp only at hSw); go_simp; try with_reducible rfl)
          try simp only [Act.put, List.setIfInBounds_toArray, List.set_cons_zero, List.set_cons_succ]
          refine held_call 10 (by kernel_rfl) rfl (fun K hK => ?_)
          go_simp
          refine hK.out _ _ ?_ (fun hHeld6 => ?_)
          · first | trivial | ((try dsimp only); (first | exact ⟨GX.cell 0 rfl, GX.cell 1 rfl⟩ | exact ⟨(GX.alloc _).cell 0 rfl, (GX.alloc _).cell 1 rfl⟩ | exact ⟨((GX.alloc _).alloc _).cell 0 rfl, ((GX.alloc _).alloc _).cell 1 rfl⟩ | exact ⟨(((GX.alloc _).alloc _).alloc _).cell 0 rfl, (((GX.alloc _).alloc _).alloc _).cell 1 rfl⟩))
          clear hK K hHeld5
          try simp only [Act.put, List.setIfInBounds_toArray, List.set_cons_zero, List.set_cons_succ]
          refine held_take (v := ?_) 11 rfl (by kernel_rfl) (by kernel_rfl) (by kernel_rfl) (fun _ _ _ h => h) (by rfl) ?_ (by assumption) ?_
          rotate_left
          · (intro w hSw; (try dsimp only at hSw); go_simp; try with_reducible rfl)
          try simp only [Act.put, List.setIfInBounds_toArray, List.set_cons_zero, List.set_cons_succ]
          refine wpAnyH_done (by kernel_rfl) ?_ _
          go_wp2_with fail
          go_meet
          refine ⟨_, rfl, ⟨tr_new (by refine Blk.at_ _ _ _ ?_; (first | omega | (simp only [World.size_alloc, size_drew] <;> omega))) (by (repeat (first | (refine own_mv hoA ?_ ?_ <;> (first | omega | (simp only [World.size_alloc, size_drew] <;> omega))) | (refine Own.fresh ?_ hbB) | (with_reducible refine Own.alloc ?_ _) | (with_reducible refine Own.drew ?_)))) (by (repeat (first | (refine own_mades _ _ _ _ ?_ ?_ (by simp only [maxLen]; omega) <;> (first | omega | (simp only [World.size_alloc, size_drew] <;> omega))) | (refine Own.fresh ?_ hbB) | (refine Own.fresh ?_ hbA) | (with_reducible refine Own.alloc ?_ _) | (with_reducible refine Own.drew ?_)))) (by (repeat (first | (refine own_mv hoB ?_ ?_ <;> (first | omega | (simp only [World.size_alloc, size_drew] <;> omega))) | (with_reducible refine Own.alloc ?_ _) | (with_reducible refine Own.drew ?_)))) (by have h1 := (hoA.lt _ rfl).2; (try simp only [World.size_alloc, size_drew] at h1); first | omega | (simp only [World.size_alloc, size_drew] <;> omega)) (by (first | omega | (simp only [World.size_alloc, size_drew] <;> omega))), by (first | exact GX | exact GX.alloc _ | exact (GX.alloc _).alloc _ | exact ((GX.alloc _).alloc _).alloc _)⟩, by (repeat (first | exact hb0 | (with_reducible refine Below.drew ?_) | (with_reducible refine Below.alloc ?_ ?_ _; rotate_left; (first | omega | (simp only [World.size_alloc, size_drew] <;> omega))) | (refine Below.trans ?_ (hbB.mono ?_); rotate_left; (first | omega | (simp only [World.size_alloc, size_drew] <;> omega))) | (refine Below.trans ?_ (hbA.mono ?_); rotate_left; (first | omega | (simp only [World.size_alloc, size_drew] <;> omega)))))⟩
        · go_simp
          refine hK.out _ _ ?_ (fun hHeld3 => ?_)
          · first | trivial | ((try dsimp only); (first | exact ⟨GX.cell 0 rfl, GX.cell 1 rfl⟩ | exact ⟨(GX.alloc _).cell 0 rfl, (GX.alloc _).cell 1 rfl⟩ | exact ⟨((GX.alloc _).alloc _).cell 0 rfl, ((GX.alloc _).alloc _).cell 1 rfl⟩ | exact ⟨(((GX.alloc _).alloc _).alloc _).cell 0 rfl, (((GX.alloc _).alloc _).alloc _).cell 1 rfl⟩))
          clear hK K hHeld2
          try simp only [Act.put, List.setIfInBounds_toArray, List.set_cons_zero, List.set_cons_succ]
          refine held_call2 5 8 (by kernel_rfl) rfl rfl (fun K hK => ?_) (fun K hK => ?_)
          · go_simp
            refine hK.out _ _ ?_ (fun hHeld4 => ?_)
            · first | trivial | ((try dsimp only); (first | exact ⟨GX.cell 0 rfl, GX.cell 1 rfl⟩ | exact ⟨(GX.alloc _).cell 0 rfl, (GX.alloc _).cell 1 rfl⟩ | exact ⟨((GX.alloc _).alloc _).cell 0 rfl, ((GX.alloc _).alloc _).cell 1 rfl⟩ | exact ⟨(((GX.alloc _).alloc _).alloc _).cell 0 rfl, (((GX.alloc _).alloc _).alloc _).cell 1 rfl⟩))
            clear hK K hHeld3
            try simp only [Act.put, List.setIfInBounds_toArray, List.set_cons_zero, List.set_cons_succ]
            refine held_call 8 (by kernel_rfl) rfl (fun K hK => ?_)
            go_simp
            go_at_call 171; refine (repeatInt_any _ 1 _ N (-2) _ (at_blk (t := 3) (by first | (first | (refine Blk.at_ _ _ _ ?_; (first | omega | (simp only [World.size_alloc, size_drew] <;> omega))) | (refine Blk.alloc (Blk.at_ _ _ _ ?_) _; (first | omega | (simp only [World.size_alloc, size_drew] <;> omega))) | (refine Blk.alloc (Blk.alloc (Blk.at_ _ _ _ ?_) _) _; (first | omega | (simp only [World.size_alloc, size_drew] <;> omega)))) | (refine Blk.fresh ?_ hbA; (first | (refine Blk.at_ _ _ _ ?_; (first | omega | (simp only [World.size_alloc, size_drew] <;> omega))) | (refine Blk.alloc (Blk.at_ _ _ _ ?_) _; (first | omega | (simp only [World.size_alloc, size_drew] <;> omega))) | (refine Blk.alloc (Blk.alloc (Blk.at_ _ _ _ ?_) _) _; (first | omega | (simp only [World.size_alloc, size_drew] <;> omega))))) | (refine Blk.alloc (Blk.fresh ?_ hbA) _; (first | (refine Blk.at_ _ _ _ ?_; (first | omega | (simp only [World.size_alloc, size_drew] <;> omega))) | (refine Blk.alloc (Blk.at_ _ _ _ ?_) _; (first | omega | (simp only [World.size_alloc, size_drew] <;> omega))) | (refine Blk.alloc (Blk.alloc (Blk.at_ _ _ _ ?_) _) _; (first | omega | (simp only [World.size_alloc, size_drew] <;> omega)))))) ⟨by omega, by omega⟩) (Nat.le_refl _) (Nat.le_refl _) hN').mono ?_; rintro e wB ⟨rfl, hoB, hbB⟩; have GY := Blk.fresh (w' := wB) (by (first | exact GX | exact GX.alloc _ | exact (GX.alloc _).alloc _ | exact ((GX.alloc _).alloc _).alloc _)) hbB; clear GX; have GX := GY; clear GY; have sB := hbB.size; try simp only [World.size_alloc, size_drew] at sB
            try (go_wp2_with fail)
            refine hK.out _ _ ?_ (fun hHeld5 => ?_)
            · first | trivial | ((try dsimp only); (first | exact ⟨GX.cell 0 rfl, GX.cell 1 rfl⟩ | exact ⟨(GX.alloc _).cell 0 rfl, (GX.alloc _).cell 1 rfl⟩ | exact ⟨((GX.alloc _).alloc _).cell 0 rfl, ((GX.alloc _).alloc _).cell 1 rfl⟩ | exact ⟨(((GX.alloc _).alloc _).alloc _).cell 0 rfl, (((GX.alloc _).alloc _).alloc _).cell 1 rfl⟩))
            clear hK K hHeld4
            try simp only [Act.put, List.setIfInBounds_toArray, List.set_cons_zero, List.set_cons_succ]
            refine held_take (v := ?_) 9 rfl (by kernel_rfl) (by kernel_rfl) (by kernel_rfl) (fun _ _ _ h => h) (by rfl) ?_ (by assumption) ?_
            rotate_left
            · (intro w hSw; (try dsimp only at hSw); go_simp; try with_reducible rfl)
            try simp only [Act.put, List.setIfInBounds_toArray, List.set_cons_zero, List.set_cons_succ]
            refine held_call 10 (by kernel_rfl) rfl (fun K hK => ?_)
            go_simp
            refine hK.out _ _ ?_ (fun hHeld6 => ?_)
            · first | trivial | ((try dsimp only); (first | exact ⟨GX.cell 0 rfl, GX.cell 1 rfl⟩ | exact ⟨(GX.alloc _).cell 0 rfl, (GX.alloc _).cell 1 rfl⟩ | exact ⟨((GX.alloc _).alloc _).cell 0 rfl, ((GX.alloc _).alloc _).cell 1 rfl⟩ | exact ⟨(((GX.alloc _).alloc _).alloc _).cell 0 rfl, (((GX.alloc _).alloc _).alloc _).cell 1 rfl⟩))
            clear hK K hHeld5
            try simp only [Act.put, List.setIfInBounds_toArray, List.set_cons_zero, List.set_cons_succ]
            refine held_take (v := ?_) 11 rfl (by kernel_rfl) (by kernel_rfl) (by kernel_rfl) (fun _ _ _ h => h) (by rfl) ?_ (by assumption) ?_
            rotate_left
            · (intro w hSw; (try dsimp only at hSw); go_simp; try with_reducible rfl)
            try simp only [Act.put, List.setIfInBounds_toArray, List.set_cons_zero, List.set_cons_succ]
            refine wpAnyH_done (by kernel_rfl) ?_ _
            go_wp2_with fail
            go_meet
            refine ⟨_, rfl, ⟨tr_new (by refine Blk.at_ _ _ _ ?_; (first | omega | (simp only [World.size_alloc, size_drew] <;> omega))) (by (repeat (first | (refine own_mv hoA ?_ ?_ <;> (first | omega | (simp only [World.size_alloc, size_drew] <;> omega))) | (refine Own.fresh ?_ hbB) | (with_reducible refine Own.alloc ?_ _) | (with_reducible refine Own.drew ?_)))) (by (repeat (first | (refine own_mades _ _ _ _ ?_ ?_ (by simp only [maxLen]; omega) <;> (first | omega | (simp only [World.size_alloc, size_drew] <;> omega))) | (refine Own.fresh ?_ hbB) | (refine Own.fresh ?_ hbA) | (with_reducible refine Own.alloc ?_ _) | (with_reducible refine Own.drew ?_)))) (by (repeat (first | (refine own_mv hoB ?_ ?_ <;> (first | omega | (simp only [World.size_alloc, size_drew] <;> omega))) | (with_reducible refine Own.alloc ?_ _) | (with_reducible refine Own.drew ?_)))) (by have h1 := (hoA.lt _ rfl).2; (try simp only [World.size_alloc, size_drew] at h1); first | omega | (simp only [World.size_alloc, size_drew] <;> omega)) (by (first | omega | (simp only [World.size_alloc, size_drew] <;> omega))), by (first | exact GX | exact GX.alloc _ | exact (GX.alloc _).alloc _ | exact ((GX.alloc _).alloc _).alloc _)⟩, by (repeat (first | exact hb0 | (with_reducible refine Below.drew ?_) | (with_reducible refine Below.alloc ?_ ?_ _; rotate_left; (first | omega | (simp only [World.size_alloc, size_drew] <;> omega))) | (refine Below.trans ?_ (hbB.mono ?_); rotate_left; (first | omega | (simp only [World.size_alloc, size_drew] <;> omega))) | (refine Below.trans ?_ (hbA.mono ?_); rotate_left; (first | omega | (simp only [World.size_alloc, size_drew] <;> omega)))))⟩
          · go_simp
            go_at_call 171; refine (repeatInt_any _ 1 _ N (-2) _ (at_blk (t := 3) (by first | (first | (refine Blk.at_ _ _ _ ?_; (first | omega | (simp only [World.size_alloc, size_drew] <;> omega))) | (refine Blk.alloc (Blk.at_ _ _ _ ?_) _; (first | omega | (simp only [World.size_alloc, size_drew] <;> omega))) | (refine Blk.alloc (Blk.alloc (Blk.at_ _ _ _ ?_) _) _; (first | omega | (simp only [World.size_alloc, size_drew] <;> omega)))) | (refine Blk.fresh ?_ hbA; (first | (refine Blk.at_ _ _ _ ?_; (first | omega | (simp only [World.size_alloc, size_drew] <;> omega))) | (refine Blk.alloc (Blk.at_ _ _ _ ?_) _; (first | omega | (simp only [World.size_alloc, size_drew] <;> omega))) | (refine Blk.alloc (Blk.alloc (Blk.at_ _ _ _ ?_) _) _; (first | omega | (simp only [World.size_alloc, size_drew] <;> omega))))) | (refine Blk.alloc (Blk.fresh ?_ hbA) _; (first | (refine Blk.at_ _ _ _ ?_; (first | omega | (simp only [World.size_alloc, size_drew] <;> omega))) | (refine Blk.alloc (Blk.at_ _ _ _ ?_) _; (first | omega | (simp only [World.size_alloc, size_drew] <;> omega))) | (refine Blk.alloc (Blk.alloc (Blk.at_ _ _ _ ?_) _) _; (first | omega | (simp only [World.size_alloc, size_drew] <;> omega)))))) ⟨by omega, by omega⟩) (Nat.le_refl _) (Nat.le_refl _) hN').mono ?_; rintro e wB ⟨rfl, hoB, hbB⟩; have GY := Blk.fresh (w' := wB) (by (first | exact GX | exact GX.alloc _ | exact (GX.alloc _).alloc _ | exact ((GX.alloc _).alloc _).alloc _)) hbB; clear GX; have GX := GY; clear GY; have sB := hbB.size; try simp only [World.size_alloc, size_drew] at sB
            try (go_wp2_with fail)
            refine hK.out _ _ ?_ (fun hHeld4 => ?_)
            · first | trivial | ((try dsimp only); (first | exact ⟨GX.cell 0 rfl, GX.cell 1 rfl⟩ | exact ⟨(GX.alloc _).cell 0 rfl, (GX.alloc _).cell 1 rfl⟩ | exact ⟨((GX.alloc _).alloc _).cell 0 rfl, ((GX.alloc _).alloc _).cell 1 rfl⟩ | exact ⟨(((GX.alloc _).alloc _).alloc _).cell 0 rfl, (((GX.alloc _).alloc _).alloc _).cell 1 rfl⟩))
            clear hK K hHeld3
            try simp only [Act.put, List.setIfInBounds_toArray, List.set_cons_zero, List.set_cons_succ]
            refine held_call 5 (by kernel_rfl) rfl (fun K hK => ?_)
            go_simp
            refine hK.out _ _ ?_ (fun hHeld5 => ?_)
            · first | trivial | ((try dsimp only); (first | exact ⟨GX.cell 0 rfl, GX.cell 1 rfl⟩ | exact ⟨(GX.alloc _).cell 0 rfl, (GX.alloc _).cell 1 rfl⟩ | exact ⟨((GX.alloc _).alloc _).cell 0 rfl, ((GX.alloc _).alloc _).cell 1 rfl⟩ | exact ⟨(((GX.alloc _).alloc _).alloc _).cell 0 rfl, (((GX.alloc _).alloc _).alloc _).cell 1 rfl⟩))
            clear hK K hHeld4
            try simp only [Act.put, List.setIfInBounds_toArray, List.set_cons_zero, List.set_cons_succ]
            refine held_take (v := ?_) 9 rfl (by kernel_rfl) (by kernel_rfl) (by kernel_rfl) (fun _ _ _ h => h) (by rfl) ?_ (by assumption) ?_
            rotate_left
            · (intro w hSw; (try dsimp only at hSw); go_simp; try with_reducible rfl)
            try simp only [Act.put, List.setIfInBounds_toArray, List.set_cons_zero, List.set_cons_succ]
            refine held_call 10 (by kernel_rfl) rfl (fun K hK => ?_)
            go_simp
            refine hK.out _ _ ?_ (fun hHeld6 => ?_)
            · first | trivial | ((try dsimp only); (first | exact ⟨GX.cell 0 rfl, GX.cell 1 rfl⟩ | exact ⟨(GX.alloc _).cell 0 rfl, (GX.alloc _).cell 1 rfl⟩ | exact ⟨((GX.alloc _).alloc _).cell 0 rfl, ((GX.alloc _).alloc _).cell 1 rfl⟩ | exact ⟨(((GX.alloc _).alloc _).alloc _).cell 0 rfl, (((GX.alloc _).alloc _).alloc _).cell 1 rfl⟩))
            clear hK K hHeld5
            try simp only [Act.put, List.setIfInBounds_toArray, List.set_cons_zero, List.set_cons_succ]
            refine held_take (v := ?_) 11 rfl (by kernel_rfl) (by kernel_rfl) (by kernel_rfl) (fun _ _ _ h => h) (by rfl) ?_ (by assumption) ?_
            rotate_left
            · (intro w hSw; (try dsimp only at hSw); go_simp; try with_reducible rfl)
            try simp only [Act.put, List.setIfInBounds_toArray, List.set_cons_zero, List.set_cons_succ]
            refine wpAnyH_done (by kernel_rfl) ?_ _
            go_wp2_with fail
            go_meet
            refine ⟨_, rfl, ⟨tr_new (by refine Blk.at_ _ _ _ ?_; (first | omega | (simp only [World.size_alloc, size_drew] <;> omega))) (by (repeat (first | (refine own_mv hoA ?_ ?_ <;> (first | omega | (simp only [World.size_alloc, size_drew] <;> omega))) | (refine Own.fresh ?_ hbB) | (with_reducible refine Own.alloc ?_ _) | (with_reducible refine Own.drew ?_)))) (by (repeat (first | (refine own_mades _ _ _ _ ?_ ?_ (by simp only [maxLen]; omega) <;> (first | omega | (simp only [World.size_alloc, size_drew] <;> omega))) | (refine Own.fresh ?_ hbB) | (refine Own.fresh ?_ hbA) | (with_reducible refine Own.alloc ?_ _) | (with_reducible refine Own.drew ?_)))) (by (repeat (first | (refine own_mv hoB ?_ ?_ <;> (first | omega | (simp only [World.size_alloc, size_drew] <;> omega))) | (with_reducible refine Own.alloc ?_ _) | (with_reducible refine Own.drew ?_)))) (by have h1 := (hoA.lt _ rfl).2; (try simp only [World.size_alloc, size_drew] at h1); first | omega | (simp only [World.size_alloc, size_drew] <;> omega)) (by (first | omega | (simp only [World.size_alloc, size_drew] <;> omega))), by (first | exact GX | exact GX.alloc _ | exact (GX.alloc _).alloc _ | exact ((GX.alloc _).alloc _).alloc _)⟩, by (repeat (first | exact hb0 | (with_reducible refine Below.drew ?_) | (with_reducible refine Below.alloc ?_ ?_ _; rotate_left; (first | omega | (simp only [World.size_alloc, size_drew] <;> omega))) | (refine Below.trans ?_ (hbB.mono ?_); rotate_left; (first | omega | (simp only [World.size_alloc, size_drew] <;> omega))) | (refine Below.trans ?_ (hbA.mono ?_); rotate_left; (first | omega | (simp only [World.size_alloc, size_drew] <;> omega)))))⟩
      · go_simp
        refine hK.out _ _ ?_ (fun hHeld2 => ?_)
        · first | trivial | ((try dsimp only); (first | exact ⟨GX.cell 0 rfl, GX.cell 1 rfl⟩ | exact ⟨(GX.alloc _).cell 0 rfl, (GX.alloc _).cell 1 rfl⟩ | exact ⟨((GX.alloc _).alloc _).cell 0 rfl, ((GX.alloc _).alloc _).cell 1 rfl⟩ | exact ⟨(((GX.alloc _).alloc _).alloc _).cell 0 rfl, (((GX.alloc _).alloc _).alloc _).cell 1 rfl⟩))
        clear hK K hHeld1
        try simp only [Act.put, List.setIfInBounds_toArray, List.set_cons_zero, List.set_cons_succ]
        refine held_call2 3 6 (by kernel_rfl) rfl rfl (fun K hK => ?_) (fun K hK => ?_)
        · go_simp
          go_at_call 171; refine (repeatInt_any _ 1 _ N (-2) _ (at_blk (t := 3) (by (first | (refine Blk.at_ _ _ _ ?_; (first | omega | (simp only [World.size_alloc, size_drew] <;> omega))) | (refine Blk.alloc (Blk.at_ _ _ _ ?_) _; (first | omega | (simp only [World.size_alloc, size_drew] <;> omega))) | (refine Blk.alloc (Blk.alloc (Blk.at_ _ _ _ ?_) _) _; (first | omega | (simp only [World.size_alloc, size_drew] <;> omega))))) ⟨by omega, by omega⟩) (Nat.le_refl _) (Nat.le_refl _) hN').mono ?_; rintro e wA ⟨rfl, hoA, hbA⟩; have GY := Blk.fresh (w' := wA) (by (first | exact GX | exact GX.alloc _ | exact (GX.alloc _).alloc _ | exact ((GX.alloc _).alloc _).alloc _)) hbA; clear GX; have GX := GY; clear GY; have sA := hbA.size; try simp only [World.size_alloc, size_drew] at sA
          try (go_wp2_with fail)
          refine hK.out _ _ ?_ (fun hHeld3 => ?_)
          · first | trivial | ((try dsimp only); (first | exact ⟨GX.cell 0 rfl, GX.cell 1 rfl⟩ | exact ⟨(GX.alloc _).cell 0 rfl, (GX.alloc _).cell 1 rfl⟩ | exact ⟨((GX.alloc _).alloc _).cell 0 rfl, ((GX.alloc _).alloc _).cell 1 rfl⟩ | exact ⟨(((GX.alloc _).alloc _).alloc _).cell 0 rfl, (((GX.alloc _).alloc _).alloc _).cell 1 rfl⟩))
          clear hK K hHeld2
          try simp only [Act.put, List.setIfInBounds_toArray, List.set_cons_zero, List.set_cons_succ]
          refine held_call 6 (by kernel_rfl) rfl (fun K hK => ?_)
          go_simp
          refine hK.out _ _ ?_ (fun hHeld4 => ?_)
          · first | trivial | ((try dsimp only); (first | exact ⟨GX.cell 0 rfl, GX.cell 1 rfl⟩ | exact ⟨(GX.alloc _).cell 0 rfl, (GX.alloc _).cell 1 rfl⟩ | exact ⟨((GX.alloc _).alloc _).cell 0 rfl, ((GX.alloc _).alloc _).cell 1 rfl⟩ | exact ⟨(((GX.alloc _).alloc _).alloc _).cell 0 rfl, (((GX.alloc _).alloc _).alloc _).cell 1 rfl⟩))
          clear hK K hHeld3
          try simp only [Act.put, List.setIfInBounds_toArray, List.set_cons_zero, List.set_cons_succ]
          refine held_call 8 (by kernel_rfl) rfl (fun K hK => ?_)
          go_simp
          go_at_call 171; refine (repeatInt_any _ 1 _ N (-2) _ (at_blk (t := 3) (by first | (first | (refine Blk.at_ _ _ _ ?_; (first | omega | (simp only [World.size_alloc, size_drew] <;> omega))) | (refine Blk.alloc (Blk.at_ _ _ _ ?_) _; (first | omega | (simp only [World.size_alloc, size_drew] <;> omega))) | (refine Blk.alloc (Blk.alloc (Blk.at_ _ _ _ ?_) _) _; (first | omega | (simp only [World.size_alloc, size_drew] <;> omega)))) | (refine Blk.fresh ?_ hbA; (first | (refine Blk.at_ _ _ _ ?_; (first | omega | (simp only [World.size_alloc, size_drew] <;> omega))) | (refine Blk.alloc (Blk.at_ _ _ _ ?_) _; (first | omega | (simp only [World.size_alloc, size_drew] <;> omega))) | (refine Blk.alloc (Blk.alloc (Blk.at_ _ _ _ ?_) _) _; (first | omega | (simp only [World.size_alloc, size_drew] <;> omega))))) | (refine Blk.alloc (Blk.fresh ?_ hbA) _; (first | (refine Blk.at_ _ _ _ ?_; (first | omega | (simp only [World.size_alloc, size_drew] <;> omega))) | (refine Blk.alloc (Blk.at_ _ _ _ ?_) _; (first | omega | (simp only [World.size_alloc, size_drew] <;> omega))) | (refine Blk.alloc (Blk.alloc (Blk.at_ _ _ _ ?_) _) _; (first | omega | (simp only [World.size_alloc, size_drew] <;> omega)))))) ⟨by omega, by omega⟩) (Nat.le_refl _) (Nat.le_refl _) hN').mono ?_; rintro e wB ⟨rfl, hoB, hbB⟩; have GY := Blk.fresh (w' := wB) (by (first | exact GX | exact GX.alloc _ | exact (GX.alloc _).alloc _ | exact ((GX.alloc _).alloc _).alloc _)) hbB; clear GX; have GX := GY; clear GY; have sB := hbB.size; try simp only [World.size_alloc, size_drew] at sB
          try (go_wp2_with fail)
          refine hK.out _ _ ?_ (fun hHeld5 => ?_)
          · first | trivial | ((try dsimp only); (first | exact ⟨GX.cell 0 rfl, GX.cell 1 rfl⟩ | exact ⟨(GX.alloc _).cell 0 rfl, (GX.alloc _).cell 1 rfl⟩ | exact ⟨((GX.alloc _).alloc _).cell 0 rfl, ((GX.alloc _).alloc _).cell 1 rfl⟩ | exact ⟨(((GX.alloc _).alloc _).alloc _).cell 0 rfl, (((GX.alloc _).alloc _).alloc _).cell 1 rfl⟩))
          clear hK K hHeld4
          try simp only [Act.put, List.setIfInBounds_toArray, List.set_cons_zero, List.set_cons_succ]
          refine held_take (v := ?_) 9 rfl (by kernel_rfl) (by kernel_rfl) (by kernel_rfl) (fun _ _ _ h => h) (by rfl) ?_ (by assumption) ?_
          rotate_left
          · (intro w hSw; (try dsimp only at hSw); go_simp; try with_reducible rfl)
          try simp only [Act.put, List.setIfInBounds_toArray, List.set_cons_zero, List.set_cons_succ]
          refine held_call 10 (by kernel_rfl) rfl (fun K hK => ?_)
          go_simp
          refine hK.out _ _ ?_ (fun hHeld6 => ?_)
          · first | trivial | ((try dsimp only); (first | exact ⟨GX.cell 0 rfl, GX.cell 1 rfl⟩ | exact ⟨(GX.alloc _).cell 0 rfl, (GX.alloc _).cell 1 rfl⟩ | exact ⟨((GX.alloc _).alloc _).cell 0 rfl, ((GX.alloc _).alloc _).cell 1 rfl⟩ | exact ⟨(((GX.alloc _).alloc _).alloc _).cell 0 rfl, (((GX.alloc _).alloc _).alloc _).cell 1 rfl⟩))
          clear hK K hHeld5
          try simp only [Act.put, List.setIfInBounds_toArray, List.set_cons_zero, List.set_cons_succ]
          refine held_take (v := ?_) 11 rfl (by kernel_rfl) (by kernel_rfl) (by kernel_rfl) (fun _ _ _ h => h) (by rfl) ?_ (by assumption) ?_
          rotate_left
          · (intro w hSw; (try dsimp only at hSw); go_simp; try with_reducible rfl)
          try simp only [Act.put, List.setIfInBounds_toArray, List.set_cons_zero, List.set_cons_succ]
          refine wpAnyH_done (by kernel_rfl) ?_ _
          go_wp2_with fail
          go_meet
          refine ⟨_, rfl, ⟨tr_new (by refine Blk.at_ _ _ _ ?_; (first | omega | (simp only [World.size_alloc, size_drew] <;> omega))) (by (repeat (first | (refine own_mv hoA ?_ ?_ <;> (first | omega | (simp only [World.size_alloc, size_drew] <;> omega))) | (refine Own.fresh ?_ hbB) | (with_reducible refine Own.alloc ?_ _) | (with_reducible refine Own.drew ?_)))) (by (repeat (first | (refine own_mades _ _ _ _ ?_ ?_ (by simp only [maxLen]; omega) <;> (first | omega | (simp only [World.size_alloc, size_drew] <;> omega))) | (refine Own.fresh ?_ hbB) | (refine Own.fresh ?_ hbA) | (with_reducible refine Own.alloc ?_ _) | (with_reducible refine Own.drew ?_)))) (by (repeat (first | (refine own_mv hoB ?_ ?_ <;> (first | omega | (simp only [World.size_alloc, size_drew] <;> omega))) | (with_reducible refine Own.alloc ?_ _) | (with_reducible refine Own.drew ?_)))) (by have h1 := (hoA.lt _ rfl).2; (try simp only [World.size_alloc, size_drew] at h1); first | omega | (simp only [World.size_alloc, size_drew] <;> omega)) (by (first | omega | (simp only [World.size_alloc, size_drew] <;> omega))), by (first | exact GX | exact GX.alloc _ | exact (GX.alloc _).alloc _ | exact ((GX.alloc _).alloc _).alloc _)⟩, by (repeat (first | exact hb0 | (with_reducible refine Below.drew ?_) | (with_reducible refine Below.alloc ?_ ?_ _; rotate_left; (first | omega | (simp only [World.size_alloc, size_drew] <;> omega))) | (refine Below.trans ?_ (hbB.mono ?_); rotate_left; (first | omega | (simp only [World.size_alloc, size_drew] <;> omega))) | (refine Below.trans ?_ (hbA.mono ?_); rotate_left; (first | omega | (simp only [World.size_alloc, size_drew] <;> omega)))))⟩
        · go_simp
          refine hK.out _ _ ?_ (fun hHeld3 => ?_)
          · first | trivial | ((try dsimp only); (first | exact ⟨GX.cell 0 rfl, GX.cell 1 rfl⟩ | exact ⟨(GX.alloc _).cell 0 rfl, (GX.alloc _).cell 1 rfl⟩ | exact ⟨((GX.alloc _).alloc _).cell 0 rfl, ((GX.alloc _).alloc _).cell 1 rfl⟩ | exact ⟨(((GX.alloc _).alloc _).alloc _).cell 0 rfl, (((GX.alloc _).alloc _).alloc _).cell 1 rfl⟩))
          clear hK K hHeld2
          try simp only [Act.put, List.setIfInBounds_toArray, List.set_cons_zero, List.set_cons_succ]
          refine held_call 3 (by kernel_rfl) rfl (fun K hK => ?_)
          go_simp
          go_at_call 171; refine (repeatInt_any _ 1 _ N (-2) _ (at_blk (t := 3) (by (first | (refine Blk.at_ _ _ _ ?_; (first | omega | (simp only [World.size_alloc, size_drew] <;> omega))) | (refine Blk.alloc (Blk.at_ _ _ _ ?_) _; (first | omega | (simp only [World.size_alloc, size_drew] <;> omega))) | (refine Blk.alloc (Blk.alloc (Blk.at_ _ _ _ ?_) _) _; (first | omega | (simp only [World.size_alloc, size_drew] <;> omega))))) ⟨by omega, by omega⟩) (Nat.le_refl _) (Nat.le_refl _) hN').mono ?_; rintro e wA ⟨rfl, hoA, hbA⟩; have GY := Blk.fresh (w' := wA) (by (first | exact GX | exact GX.alloc _ | exact (GX.alloc _).alloc _ | exact ((GX.alloc _).alloc _).alloc _)) hbA; clear GX; have GX := GY; clear GY; have sA := hbA.size; try simp only [World.size_alloc, size_drew] at sA
          try (go_wp2_with fail)
          refine hK.out _ _ ?_ (fun hHeld4 => ?_)
          · first | trivial | ((try dsimp only); (first | exact ⟨GX.cell 0 rfl, GX.cell 1 rfl⟩ | exact ⟨(GX.alloc _).cell 0 rfl, (GX.alloc _).cell 1 rfl⟩ | exact ⟨((GX.alloc _).alloc _).cell 0 rfl, ((GX.alloc _).alloc _).cell 1 rfl⟩ | exact ⟨(((GX.alloc _).alloc _).alloc _).cell 0 rfl, (((GX.alloc _).alloc _).alloc _).cell 1 rfl⟩))
          clear hK K hHeld3
          try simp only [Act.put, List.setIfInBounds_toArray, List.set_cons_zero, List.set_cons_succ]
          refine held_call 8 (by kernel_rfl) rfl (fun K hK => ?_)
          go_simp
          go_at_call 171; refine (repeatInt_any _ 1 _ N (-2) _ (at_blk (t := 3) (by first | (first | (refine Blk.at_ _ _ _ ?_; (first | omega | (simp only [World.size_alloc, size_drew] <;> omega))) | (refine Blk.alloc (Blk.at_ _ _ _ ?_) _; (first | omega | (simp only [World.size_alloc, size_drew] <;> omega))) | (refine Blk.alloc (Blk.alloc (Blk.at_ _ _ _ ?_) _) _; (first | omega | (simp only [World.size_alloc, size_drew] <;> omega)))) | (refine Blk.fresh ?_ hbA; (first | (refine Blk.at_ _ _ _ ?_; (first | omega | (simp only [World.size_alloc, size_drew] <;> omega))) | (refine Blk.alloc (Blk.at_ _ _ _ ?_) _; (first | omega | (simp only [World.size_alloc, size_drew] <;> omega))) | (refine Blk.alloc (Blk.alloc (Blk.at_ _ _ _ ?_) _) _; (first | omega | (simp only [World.size_alloc, size_drew] <;> omega))))) | (refine Blk.alloc (Blk.fresh ?_ hbA) _; (first | (refine Blk.at_ _ _ _ ?_; (first | omega | (simp only [World.size_alloc, size_drew] <;> omega))) | (refine Blk.alloc (Blk.at_ _ _ _ ?_) _; (first | omega | (simp only [World.size_alloc, size_drew] <;> omega))) | (refine Blk.alloc (Blk.alloc (Blk.at_ _ _ _ ?_) _) _; (first | omega | (simp only [World.size_alloc, size_drew] <;> omega)))))) ⟨by omega, by omega⟩) (Nat.le_refl _) (Nat.le_refl _) hN').mono ?_; rintro e wB ⟨rfl, hoB, hbB⟩; have GY := Blk.fresh (w' := wB) (by (first | exact GX | exact GX.alloc _ | exact (GX.alloc _).alloc _ | exact ((GX.alloc _).alloc _).alloc _)) hbB; clear GX; have GX := GY; clear GY; have sB := hbB.size; try simp only [World.size_alloc, size_drew] at sB
          try (go_wp2_with fail)
          refine hK.out _ _ ?_ (fun hHeld5 => ?_)
          · first | trivial | ((try dsimp only); (first | exact ⟨GX.cell 0 rfl, GX.cell 1 rfl⟩ | exact ⟨(GX.alloc _).cell 0 rfl, (GX.alloc _).cell 1 rfl⟩ | exact ⟨((GX.alloc _).alloc _).cell 0 rfl, ((GX.alloc _).alloc _).cell 1 rfl⟩ | exact ⟨(((GX.alloc _).alloc _).alloc _).cell 0 rfl, (((GX.alloc _).alloc _).alloc _).cell 1 rfl⟩))
          clear hK K hHeld4
          try simp only [Act.put, List.setIfInBounds_toArray, List.set_cons_zero, List.set_cons_succ]
          refine held_take (v := ?_) 9 rfl (by kernel_rfl) (by kernel_rfl) (by kernel_rfl) (fun _ _ _ h => h) (by rfl) ?_ (by assumption) ?_
          rotate_left
          · (intro w hSw; (try dsimp only at hSw); go_simp; try with_reducible rfl)
          try simp only [Act.put, List.setIfInBounds_toArray, List.set_cons_zero, List.set_cons_succ]
          refine held_call 10 (by kernel_rfl) rfl (fun K hK => ?_)
          go_simp
          refine hK.out _ _ ?_ (fun hHeld6 => ?_)
          · first | trivial | ((try dsimp only); (first | exact ⟨GX.cell 0 rfl, GX.cell 1 rfl⟩ | exact ⟨(GX.alloc _).cell 0 rfl, (GX.alloc _).cell 1 rfl⟩ | exact ⟨((GX.alloc _).alloc _).cell 0 rfl, ((GX.alloc _).alloc _).cell 1 rfl⟩ | exact ⟨(((GX.alloc _).alloc _).alloc _).cell 0 rfl, (((GX.alloc _).alloc _).alloc _).cell 1 rfl⟩))
          clear hK K hHeld5
          try simp only [Act.put, List.setIfInBounds_toArray, List.set_cons_zero, List.set_cons_succ]
          refine held_take (v := ?_) 11 rfl (by kernel_rfl) (by kernel_rfl) (by kernel_rfl) (fun _ _ _ h => h) (by rfl) ?_ (by assumption) ?_
          rotate_left
          · (intro w hSw; (try dsimp only at hSw); go_simp; try with_reducible rfl)
          try simp only [Act.put, List.setIfInBounds_toArray, List.set_cons_zero, List.set_cons_succ]
          refine wpAnyH_done (by kernel_rfl) ?_ _
          go_wp2_with fail
          go_meet
          refine ⟨_, rfl, ⟨tr_new (by refine Blk.at_ _ _ _ ?_; (first | omega | (simp only [World.size_alloc, size_drew] <;> omega))) (by (repeat (first | (refine own_mv hoA ?_ ?_ <;> (first | omega | (simp only [World.size_alloc, size_drew] <;> omega))) | (refine Own.fresh ?_ hbB) | (with_reducible refine Own.alloc ?_ _) | (with_reducible refine Own.drew ?_)))) (by (repeat (first | (refine own_mades _ _ _ _ ?_ ?_ (by simp only [maxLen]; omega) <;> (first | omega | (simp only [World.size_alloc, size_drew] <;> omega))) | (refine Own.fresh ?_ hbB) | (refine Own.fresh ?_ hbA) | (with_reducible refine Own.alloc ?_ _) | (with_reducible refine Own.drew ?_)))) (by (repeat (first | (refine own_mv hoB ?_ ?_ <;> (first | omega | (simp only [World.size_alloc, size_drew] <;> omega))) | (with_reducible refine Own.alloc ?_ _) | (with_reducible refine Own.drew ?_)))) (by have h1 := (hoA.lt _ rfl).2; (try simp only [World.size_alloc, size_drew] at h1); first | omega | (simp only [World.size_alloc, size_drew] <;> omega)) (by (first | omega | (simp only [World.size_alloc, size_drew] <;> omega))), by (first | exact GX | exact GX.alloc _ | exact (GX.alloc _).alloc _ | exact ((GX.alloc _).alloc _).alloc _)⟩, by (repeat (first | exact hb0 | (with_reducible refine Below.drew ?_) | (with_reducible refine Below.alloc ?_ ?_ _; rotate_left; (first | omega | (simp only [World.size_alloc, size_drew] <;> omega))) | (refine Below.trans ?_ (hbB.mono ?_); rotate_left; (first | omega | (simp only [World.size_alloc, size_drew] <;> omega))) | (refine Below.trans ?_ (hbA.mono ?_); rotate_left; (first | omega | (simp only [World.size_alloc, size_drew] <;> omega)))))⟩
      · go_simp
        refine hK.out _ _ ?_ (fun hHeld2 => ?_)
        · first | trivial | ((try dsimp only); (first | exact ⟨GX.cell 0 rfl, GX.cell 1 rfl⟩ | exact ⟨(GX.alloc _).cell 0 rfl, (GX.alloc _).cell 1 rfl⟩ | exact ⟨((GX.alloc _).alloc _).cell 0 rfl, ((GX.alloc _).alloc _).cell 1 rfl⟩ | exact ⟨(((GX.alloc _).alloc _).alloc _).cell 0 rfl, (((GX.alloc _).alloc _).alloc _).cell 1 rfl⟩))
        clear hK K hHeld1
        try simp only [Act.put, List.setIfInBounds_toArray, List.set_cons_zero, List.set_cons_succ]
        refine held_call2 3 5 (by kernel_rfl) rfl rfl (fun K hK => ?_) (fun K hK => ?_)
        · go_simp
          go_at_call 171; refine (repeatInt_any _ 1 _ N (-2) _ (at_blk (t := 3) (by (first | (refine Blk.at_ _ _ _ ?_; (first | omega | (simp only [World.size_alloc, size_drew] <;> omega))) | (refine Blk.alloc (Blk.at_ _ _ _ ?_) _; (first | omega | (simp only [World.size_alloc, size_drew] <;> omega))) | (refine Blk.alloc (Blk.alloc (Blk.at_ _ _ _ ?_) _) _; (first | omega | (simp only [World.size_alloc, size_drew] <;> omega))))) ⟨by omega, by omega⟩) (Nat.le_refl _) (Nat.le_refl _) hN').mono ?_; rintro e wA ⟨rfl, hoA, hbA⟩; have GY := Blk.fresh (w' := wA) (by (first | exact GX | exact GX.alloc _ | exact (GX.alloc _).alloc _ | exact ((GX.alloc _).alloc _).alloc _)) hbA; clear GX; have GX := GY; clear GY; have sA := hbA.size; try simp only [World.size_alloc, size_drew] at sA
          try (go_wp2_with fail)
          refine hK.out _ _ ?_ (fun hHeld3 => ?_)
          · first | trivial | ((try dsimp only); (first | exact ⟨GX.cell 0 rfl, GX.cell 1 rfl⟩ | exact ⟨(GX.alloc _).cell 0 rfl, (GX.alloc _).cell 1 rfl⟩ | exact ⟨((GX.alloc _).alloc _).cell 0 rfl, ((GX.alloc _).alloc _).cell 1 rfl⟩ | exact ⟨(((GX.alloc _).alloc _).alloc _).cell 0 rfl, (((GX.alloc _).alloc _).alloc _).cell 1 rfl⟩))
          clear hK K hHeld2
          try simp only [Act.put, List.setIfInBounds_toArray, List.set_cons_zero, List.set_cons_succ]
          refine held_call2 5 8 (by kernel_rfl) rfl rfl (fun K hK => ?_) (fun K hK => ?_)
          · go_simp
            refine hK.out _ _ ?_ (fun hHeld4 => ?_)
            · first | trivial | ((try dsimp only); (first | exact ⟨GX.cell 0 rfl, GX.cell 1 rfl⟩ | exact ⟨(GX.alloc _).cell 0 rfl, (GX.alloc _).cell 1 rfl⟩ | exact ⟨((GX.alloc _).alloc _).cell 0 rfl, ((GX.alloc _).alloc _).cell 1 rfl⟩ | exact ⟨(((GX.alloc _).alloc _).alloc _).cell 0 rfl, (((GX.alloc _).alloc _).alloc _).cell 1 rfl⟩))
            clear hK K hHeld3
            try simp only [Act.put, List.setIfInBounds_toArray, List.set_cons_zero, List.set_cons_succ]
            refine held_call 8 (by kernel_rfl) rfl (fun K hK => ?_)
            go_simp
            go_at_call 171; refine (repeatInt_any _ 1 _ N (-2) _ (at_blk (t := 3) (by first | (first | (refine Blk.at_ _ _ _ ?_; (first | omega | (simp only [World.size_alloc, size_drew] <;> omega))) | (refine Blk.alloc (Blk.at_ _ _ _ ?_) _; (first | omega | (simp only [World.size_alloc, size_drew] <;> omega))) | (refine Blk.alloc (Blk.alloc (Blk.at_ _ _ _ ?_) _) _; (first | omega | (simp only [World.size_alloc, size_drew] <;> omega)))) | (refine Blk.fresh ?_ hbA; (first | (refine Blk.at_ _ _ _ ?_; (first | omega | (simp only [World.size_alloc, size_drew] <;> omega))) | (refine Blk.alloc (Blk.at_ _ _ _ ?_) _; (first | omega | (simp only [World.size_alloc, size_drew] <;> omega))) | (refine Blk.alloc (Blk.alloc (Blk.at_ _ _ _ ?_) _) _; (first | omega | (simp only [World.size_alloc, size_drew] <;> omega))))) | (refine Blk.alloc (Blk.fresh ?_ hbA) _; (first | (refine Blk.at_ _ _ _ ?_; (first | omega | (simp only [World.size_alloc, size_drew] <;> omega))) | (refine Blk.alloc (Blk.at_ _ _ _ ?_) _; (first | omega | (simp only [World.size_alloc, size_drew] <;> omega))) | (refine Blk.alloc (Blk.alloc (Blk.at_ _ _ _ ?_) _) _; (first | omega | (simp only [World.size_alloc, size_drew] <;> omega)))))) ⟨by omega, by omega⟩) (Nat.le_refl _) (Nat.le_refl _) hN').mono ?_; rintro e wB ⟨rfl, hoB, hbB⟩; have GY := Blk.fresh (w' := wB) (by (first | exact GX | exact GX.alloc _ | exact (GX.alloc _).alloc _ | exact ((GX.alloc _).alloc _).alloc _)) hbB; clear GX; have GX := GY; clear GY; have sB := hbB.size; try simp only [World.size_alloc, size_drew] at sB
            try (go_wp2_with fail)
            refine hK.out _ _ ?_ (fun hHeld5 => ?_)
            · first | trivial | ((try dsimp only); (first | exact ⟨GX.cell 0 rfl, GX.cell 1 rfl⟩ | exact ⟨(GX.alloc _).cell 0 rfl, (GX.alloc _).cell 1 rfl⟩ | exact ⟨((GX.alloc _).alloc _).cell 0 rfl, ((GX.alloc _).alloc _).cell 1 rfl⟩ | exact ⟨(((GX.alloc _).alloc _).alloc _).cell 0 rfl, (((GX.alloc _).alloc _).alloc _).cell 1 rfl⟩))
            clear hK K hHeld4
            try simp only [Act.put, List.setIfInBounds_toArray, List.set_cons_zero, List.set_cons_succ]
            refine held_take (v := ?_) 9 rfl (by kernel_rfl) (by kernel_rfl) (by kernel_rfl) (fun _ _ _ h => h) (by rfl) ?_ (by assumption) ?_
            rotate_left
            · (intro w hSw; (try dsimp only at hSw); go_simp; try with_reducible rfl)
            try simp only [Act.put, List.setIfInBounds_toArray, List.set_cons_zero, List.set_cons_succ]
            refine held_call 10 (by kernel_rfl) rfl (fun K hK => ?_)
            go_simp
            refine hK.out _ _ ?_ (fun hHeld6 => ?_)
            · first | trivial | ((try dsimp only); (first | exact ⟨GX.cell 0 rfl, GX.cell 1 rfl⟩ | exact ⟨(GX.alloc _).cell 0 rfl, (GX.alloc _).cell 1 rfl⟩ | exact ⟨((GX.alloc _).alloc _).cell 0 rfl, ((GX.alloc _).alloc _).cell 1 rfl⟩ | exact ⟨(((GX.alloc _).alloc _).alloc _).cell 0 rfl, (((GX.alloc _).alloc _).alloc _).cell 1 rfl⟩))
            clear hK K hHeld5
            try simp only [Act.put, List.setIfInBounds_toArray, List.set_cons_zero, List.set_cons_succ]
            refine held_take (v := ?_) 11 rfl (by kernel_rfl) (by kernel_rfl) (by kernel_rfl) (fun _ _ _ h => h) (by rfl) ?_ (by assumption) ?_
            rotate_left
            · (intro w hSw; (try dsimp only at hSw); go_simp; try with_reducible rfl)
            try simp only [Act.put, List.setIfInBounds_toArray, List.set_cons_zero, List.set_cons_succ]
            refine wpAnyH_done (by kernel_rfl) ?_ _
            go_wp2_with fail
            go_meet
            refine ⟨_, rfl, ⟨tr_new (by refine Blk.at_ _ _ _ ?_; (first | omega | (simp only [World.size_alloc, size_drew] <;> omega))) (by (repeat (first | (refine own_mv hoA ?_ ?_ <;> (first | omega | (simp only [World.size_alloc, size_drew] <;> omega))) | (refine Own.fresh ?_ hbB) | (with_reducible refine Own.alloc ?_ _) | (with_reducible refine Own.drew ?_)))) (by (repeat (first | (refine own_mades _ _ _ _ ?_ ?_ (by simp only [maxLen]; omega) <;> (first | omega | (simp only [World.size_alloc, size_drew] <;> omega))) | (refine Own.fresh ?_ hbB) | (refine Own.fresh ?_ hbA) | (with_reducible refine Own.alloc ?_ _) | (with_reducible refine Own.drew ?_)))) (by (repeat (first | (refine own_mv hoB ?_ ?_ <;> (first | omega | (simp only [World.size_alloc, size_drew] <;> omega))) | (with_reducible refine Own.alloc ?_ _) | (with_reducible refine Own.drew ?_)))) (by have h1 := (hoA.lt _ rfl).2; (try simp only [World.size_alloc, size_drew] at h1); first | omega | (simp only [World.size_alloc, size_drew] <;> omega)) (by (first | omega | (simp only [World.size_alloc, size_drew] <;> omega))), by (first | exact GX | exact GX.alloc _ | exact (GX.alloc _).alloc _ | exact ((GX.alloc _).alloc _).alloc _)⟩, by (repeat (first | exact hb0 | (with_reducible refine Below.drew ?_) | (with_reducible refine Below.alloc ?_ ?_ _; rotate_left; (first | omega | (simp only [World.size_alloc, size_drew] <;> omega))) | (refine Below.trans ?_ (hbB.mono ?_); rotate_left; (first | omega | (simp only [World.size_alloc, size_drew] <;> omega))) | (refine Below.trans ?_ (hbA.mono ?_); rotate_left; (first | omega | (simp only [World.size_alloc, size_drew] <;> omega)))))⟩
          · go_simp
            go_at_call 171; refine (repeatInt_any _ 1 _ N (-2) _ (at_blk (t := 3) (by first | (first | (refine Blk.at_ _ _ _ ?_; (first | omega | (simp only [World.size_alloc, size_drew] <;> omega))) | (refine Blk.alloc (Blk.at_ _ _ _ ?_) _; (first | omega | (simp only [World.size_alloc, size_drew] <;> omega))) | (refine Blk.alloc (Blk.alloc (Blk.at_ _ _ _ ?_) _) _; (first | omega | (simp only [World.size_alloc, size_drew] <;> omega)))) | (refine Blk.fresh ?_ hbA; (first | (refine Blk.at_ _ _ _ ?_; (first | omega | (simp only [World.size_alloc, size_drew] <;> omega))) | (refine Blk.alloc (Blk.at_ _ _ _ ?_) _; (first | omega | (simp only [World.size_alloc, size_drew] <;> omega))) | (refine Blk.alloc (Blk.alloc (Blk.at_ _ _ _ ?_) _) _; (first | omega | (simp only [World.size_alloc, size_drew] <;> omega))))) | (refine Blk.alloc (Blk.fresh ?_ hbA) _; (first | (refine Blk.at_ _ _ _ ?_; (first | omega | (simp only [World.size_alloc, size_drew] <;> omega))) | (refine Blk.alloc (Blk.at_ _ _ _ ?_) _; (first | omega | (simp only [World.size_alloc, size_drew] <;> omega))) | (refine Blk.alloc (Blk.alloc (Blk.at_ _ _ _ ?_) _) _; (first | omega | (simp only [World.size_alloc, size_drew] <;> omega)))))) ⟨by omega, by omega⟩) (Nat.le_refl _) (Nat.le_refl _) hN').mono ?_; rintro e wB ⟨rfl, hoB, hbB⟩; have GY := Blk.fresh (w' := wB) (by (first | exact GX | exact GX.alloc _ | exact (GX.alloc _).alloc _ | exact ((GX.alloc _).alloc _).alloc _)) hbB; clear GX; have GX := GY; clear GY; have sB := hbB.size; try simp only [World.size_alloc, size_drew] at sB
            try (go_wp2_with fail)
            refine hK.out _ _ ?_ (fun hHeld4 => ?_)
            · first | trivial | ((try dsimp only); (first | exact ⟨GX.cell 0 rfl, GX.cell 1 rfl⟩ | exact ⟨(GX.alloc _).cell 0 rfl, (GX.alloc _).cell 1 rfl⟩ | exact ⟨((GX.alloc _).alloc _).cell 0 rfl, ((GX.alloc _).alloc _).cell 1 rfl⟩ | exact ⟨(((GX.alloc _).alloc _).alloc _).cell 0 rfl, (((GX.alloc _).alloc _).alloc _).cell 1 rfl⟩))
            clear hK K hHeld3
            try simp only [Act.put, List.setIfInBounds_toArray, List.set_cons_zero, List.set_cons_succ]
            refine held_call 5 (by kernel_rfl) rfl (fun K hK => ?_)
            go_simp
            refine hK.out _ _ ?_ (fun hHeld5 => ?_)
            · first | trivial | ((try dsimp only); (first | exact ⟨GX.cell 0 rfl, GX.cell 1 rfl⟩ | exact ⟨(GX.alloc _).cell 0 rfl, (GX.alloc _).cell 1 rfl⟩ | exact ⟨((GX.alloc _).alloc _).cell 0 rfl, ((GX.alloc _).alloc _).cell 1 rfl⟩ | exact ⟨(((GX.alloc _).alloc _).alloc _).cell 0 rfl, (((GX.alloc _).alloc _).alloc _).cell 1 rfl⟩))
            clear hK K hHeld4
            try simp only [Act.put, List.setIfInBounds_toArray, List.set_cons_zero, List.set_cons_succ]
            refine held_take (v := ?_) 9 rfl (by kernel_rfl) (by kernel_rfl) (by kernel_rfl) (fun _ _ _ h => h) (by rfl) ?_ (by assumption) ?_
            rotate_left
            · (intro w hSw; (try dsimp only at hSw); go_simp; try with_reducible rfl)
            try simp only [Act.put, List.setIfInBounds_toArray, List.set_cons_zero, List.set_cons_succ]
            refine held_call 10 (by kernel_rfl) rfl (fun K hK => ?_)
            go_simp
            refine hK.out _ _ ?_ (fun hHeld6 => ?_)
            · first | trivial | ((try dsimp only); (first | exact ⟨GX.cell 0 rfl, GX.cell 1 rfl⟩ | exact ⟨(GX.alloc _).cell 0 rfl, (GX.alloc _).cell 1 rfl⟩ | exact ⟨((GX.alloc _).alloc _).cell 0 rfl, ((GX.alloc _).alloc _).cell 1 rfl⟩ | exact ⟨(((GX.alloc _).alloc _).alloc _).cell 0 rfl, (((GX.alloc _).alloc _).alloc _).cell 1 rfl⟩))
            clear hK K hHeld5
            try simp only [Act.put, List.setIfInBounds_toArray, List.set_cons_zero, List.set_cons_succ]
            refine held_take (v := ?_) 11 rfl (by kernel_rfl) (by kernel_rfl) (by kernel_rfl) (fun _ _ _ h => h) (by rfl) ?_ (by assumption) ?_
            rotate_left
            · (intro w hSw; (try dsimp only at hSw); go_simp; try with_reducible rfl)
            try simp only [Act.put, List.setIfInBounds_toArray, List.set_cons_zero, List.set_cons_succ]
            refine wpAnyH_done (by kernel_rfl) ?_ _
            go_wp2_with fail
            go_meet
            refine ⟨_, rfl, ⟨tr_new (by refine Blk.at_ _ _ _ ?_; (first | omega | (simp only [World.size_alloc, size_drew] <;> omega))) (by (repeat (first | (refine own_mv hoA ?_ ?_ <;> (first | omega | (simp only [World.size_alloc, size_drew] <;> omega))) | (refine Own.fresh ?_ hbB) | (with_reducible refine Own.alloc ?_ _) | (with_reducible refine Own.drew ?_)))) (by (repeat (first | (refine own_mades _ _ _ _ ?_ ?_ (by simp only [maxLen]; omega) <;> (first | omega | (simp only [World.size_alloc, size_drew] <;> omega))) | (refine Own.fresh ?_ hbB) | (refine Own.fresh ?_ hbA) | (with_reducible refine Own.alloc ?_ _) | (with_reducible refine Own.drew ?_)))) (by (repeat (first | (refine own_mv hoB ?_ ?_ <;> (first | omega | (simp only [World.size_alloc, size_drew] <;> omega))) | (with_reducible refine Own.alloc ?_ _) | (with_reducible refine Own.drew ?_)))) (by have h1 := (hoA.lt _ rfl).2; (try simp only [World.size_alloc, size_drew] at h1); first | omega | (simp only [World.size_alloc, size_drew] <;> omega)) (by (first | omega | (simp only [World.size_alloc, size_drew] <;> omega))), by (first | exact GX | exact GX.alloc _ | exact (GX.alloc _).alloc _ | exact ((GX.alloc _).alloc _).alloc _)⟩, by (repeat (first | exact hb0 | (with_reducible refine Below.drew ?_) | (with_reducible refine Below.alloc ?_ ?_ _; rotate_left; (first | omega | (simp only [World.size_alloc, size_drew] <;> omega))) | (refine Below.trans ?_ (hbB.mono ?_); rotate_left; (first | omega | (simp only [World.size_alloc, size_drew] <;> omega))) | (refine Below.trans ?_ (hbA.mono ?_); rotate_left; (first | omega | (simp only [World.size_alloc, size_drew] <;> omega)))))⟩
        · go_simp
          refine hK.out _ _ ?_ (fun hHeld3 => ?_)
          · first | trivial | ((try dsimp only); (first | exact ⟨GX.cell 0 rfl, GX.cell 1 rfl⟩ | exact ⟨(GX.alloc _).cell 0 rfl, (GX.alloc _).cell 1 rfl⟩ | exact ⟨((GX.alloc _).alloc _).cell 0 rfl, ((GX.alloc _).alloc _).cell 1 rfl⟩ | exact ⟨(((GX.alloc _).alloc _).alloc _).cell 0 rfl, (((GX.alloc _).alloc _).alloc _).cell 1 rfl⟩))
          clear hK K hHeld2
          try simp only [Act.put, List.setIfInBounds_toArray, List.set_cons_zero, List.set_cons_succ]
          refine held_call 3 (by kernel_rfl) rfl (fun K hK => ?_)
          go_simp
          go_at_call 171; refine (repeatInt_any _ 1 _ N (-2) _ (at_blk (t := 3) (by (first | (refine Blk.at_ _ _ _ ?_; (first | omega | (simp only [World.size_alloc, size_drew] <;> omega))) | (refine Blk.alloc (Blk.at_ _ _ _ ?_) _; (first | omega | (simp only [World.size_alloc, size_drew] <;> omega))) | (refine Blk.alloc (Blk.alloc (Blk.at_ _ _ _ ?_) _) _; (first | omega | (simp only [World.size_alloc, size_drew] <;> omega))))) ⟨by omega, by omega⟩) (Nat.le_refl _) (Nat.le_refl _) hN').mono ?_; rintro e wA ⟨rfl, hoA, hbA⟩; have GY := Blk.fresh (w' := wA) (by (first | exact GX | exact GX.alloc _ | exact (GX.alloc _).alloc _ | exact ((GX.alloc _).alloc _).alloc _)) hbA; clear GX; have GX := GY; clear GY; have sA := hbA.size; try simp only [World.size_alloc, size_drew] at sA
          try (go_wp2_with fail)
          refine hK.out _ _ ?_ (fun hHeld4 => ?_)
          · first | trivial | ((try dsimp only); (first | exact ⟨GX.cell 0 rfl, GX.cell 1 rfl⟩ | exact ⟨(GX.alloc _).cell 0 rfl, (GX.alloc _).cell 1 rfl⟩ | exact ⟨((GX.alloc _).alloc _).cell 0 rfl, ((GX.alloc _).alloc _).cell 1 rfl⟩ | exact ⟨(((GX.alloc _).alloc _).alloc _).cell 0 rfl, (((GX.alloc _).alloc _).alloc _).cell 1 rfl⟩))
          clear hK K hHeld3
          try simp only [Act.put, List.setIfInBounds_toArray, List.set_cons_zero, List.set_cons_succ]
          refine held_call 8 (by kernel_rfl) rfl (fun K hK => ?_)
          go_simp
          go_at_call 171; refine (repeatInt_any _ 1 _ N (-2) _ (at_blk (t := 3) (by first | (first | (refine Blk.at_ _ _ _ ?_; (first | omega | (simp only [World.size_alloc, size_drew] <;> omega))) | (refine Blk.alloc (Blk.at_ _ _ _ ?_) _; (first | omega | (simp only [World.size_alloc, size_drew] <;> omega))) | (refine Blk.alloc (Blk.alloc (Blk.at_ _ _ _ ?_) _) _; (first | omega | (simp only [World.size_alloc, size_drew] <;> omega)))) | (refine Blk.fresh ?_ hbA; (first | (refine Blk.at_ _ _ _ ?_; (first | omega | (simp only [World.size_alloc, size_drew] <;> omega))) | (refine Blk.alloc (Blk.at_ _ _ _ ?_) _; (first | omega | (simp only [World.size_alloc, size_drew] <;> omega))) | (refine Blk.alloc (Blk.alloc (Blk.at_ _ _ _ ?_) _) _; (first | omega | (simp only [World.size_alloc, size_drew] <;> omega))))) | (refine Blk.alloc (Blk.fresh ?_ hbA) _; (first | (refine Blk.at_ _ _ _ ?_; (first | omega | (simp only [World.size_alloc, size_drew] <;> omega))) | (refine Blk.alloc (Blk.at_ _ _ _ ?_) _; (first | omega | (simp only [World.size_alloc, size_drew] <;> omega))) | (refine Blk.alloc (Blk.alloc (Blk.at_ _ _ _ ?_) _) _; (first | omega | (simp only [World.size_alloc, size_drew] <;> omega)))))) ⟨by omega, by omega⟩) (Nat.le_refl _) (Nat.le_refl _) hN').mono ?_; rintro e wB ⟨rfl, hoB, hbB⟩; have GY := Blk.fresh (w' := wB) (by (first | exact GX | exact GX.alloc _ | exact (GX.alloc _).alloc _ | exact ((GX.alloc _).alloc _).alloc _)) hbB; clear GX; have GX := GY; clear GY; have sB := hbB.size; try simp only [World.size_alloc, size_drew] at sB
          try (go_wp2_with fail)
          refine hK.out _ _ ?_ (fun hHeld5 => ?_)
          · first | trivial | ((try dsimp only); (first | exact ⟨GX.cell 0 rfl, GX.cell 1 rfl⟩ | exact ⟨(GX.alloc _).cell 0 rfl, (GX.alloc _).cell 1 rfl⟩ | exact ⟨((GX.alloc _).alloc _).cell 0 rfl, ((GX.alloc _).alloc _).cell 1 rfl⟩ | exact ⟨(((GX.alloc _).alloc _).alloc _).cell 0 rfl, (((GX.alloc _).alloc _).alloc _).cell 1 rfl⟩))
          clear hK K hHeld4
          try simp only [Act.put, List.setIfInBounds_toArray, List.set_cons_zero, List.set_cons_succ]
          refine held_take (v := ?_) 9 rfl (by kernel_rfl) (by kernel_rfl) (by kernel_rfl) (fun _ _ _ h => h) (by rfl) ?_ (by assumption) ?_
          rotate_left
          · (intro w hSw; (try dsimp only at hSw); go_simp; try with_reducible rfl)
          try simp only [Act.put, List.setIfInBounds_toArray, List.set_cons_zero, List.set_cons_succ]
          refine held_call 10 (by kernel_rfl) rfl (fun K hK => ?_)
          go_simp
          refine hK.out _ _ ?_ (fun hHeld6 => ?_)
          · first | trivial | ((try dsimp only); (first | exact ⟨GX.cell 0 rfl, GX.cell 1 rfl⟩ | exact ⟨(GX.alloc _).cell 0 rfl, (GX.alloc _).cell 1 rfl⟩ | exact ⟨((GX.alloc _).alloc _).cell 0 rfl, ((GX.alloc _).alloc _).cell 1 rfl⟩ | exact ⟨(((GX.alloc _).alloc _).alloc _).cell 0 rfl, (((GX.alloc _).alloc _).alloc _).cell 1 rfl⟩))
          clear hK K hHeld5
          try simp only [Act.put, List.setIfInBounds_toArray, List.set_cons_zero, List.set_cons_succ]
          refine held_take (v := ?_) 11 rfl (by kernel_rfl) (by kernel_rfl) (by kernel_rfl) (fun _ _ _ h => h) (by rfl) ?_ (by assumption) ?_
          rotate_left
          · (intro w hSw; (try dsimp only at hSw); go_simp; try with_reducible rfl)
          try simp only [Act.put, List.setIfInBounds_toArray, List.set_cons_zero, List.set_cons_succ]
          refine wpAnyH_done (by kernel_rfl) ?_ _
          go_wp2_with fail
          go_meet
          refine ⟨_, rfl, ⟨tr_new (by refine Blk.at_ _ _ _ ?_; (first | omega | (simp only [World.size_alloc, size_drew] <;> omega))) (by (repeat (first | (refine own_mv hoA ?_ ?_ <;> (first | omega | (simp only [World.size_alloc, size_drew] <;> omega))) | (refine Own.fresh ?_ hbB) | (with_reducible refine Own.alloc ?_ _) | (with_reducible refine Own.drew ?_)))) (by (repeat (first | (refine own_mades _ _ _ _ ?_ ?_ (by simp only [maxLen]; omega) <;> (first | omega | (simp only [World.size_alloc, size_drew] <;> omega))) | (refine Own.fresh ?_ hbB) | (refine Own.fresh ?_ hbA) | (with_reducible refine Own.alloc ?_ _) | (with_reducible refine Own.drew ?_)))) (by (repeat (first | (refine own_mv hoB ?_ ?_ <;> (first | omega | (simp only [World.size_alloc, size_drew] <;> omega))) | (with_reducible refine Own.alloc ?_ _) | (with_reducible refine Own.drew ?_)))) (by have h1 := (hoA.lt _ rfl).2; (try simp only [World.size_alloc, size_drew] at h1); first | omega | (simp only [World.size_alloc, size_drew] <;> omega)) (by (first | omega | (simp only [World.size_alloc, size_drew] <;> omega))), by (first | exact GX | exact GX.alloc _ | exact (GX.alloc _).alloc _ | exact ((GX.alloc _).alloc _).alloc _)⟩, by (repeat (first | exact hb0 | (with_reducible refine Below.drew ?_) | (with_reducible refine Below.alloc ?_ ?_ _; rotate_left; (first | omega | (simp only [World.size_alloc, size_drew] <;> omega))) | (refine Below.trans ?_ (hbB.mono ?_); rotate_left; (first | omega | (simp only [World.size_alloc, size_drew] <;> omega))) | (refine Below.trans ?_ (hbA.mono ?_); rotate_left; (first | omega | (simp only [World.size_alloc, size_drew] <;> omega)))))⟩
    · go_simp
      refine hK.out _ _ ?_ (fun hHeld1 => ?_)
      · first | trivial | ((try dsimp only); (first | exact ⟨GX.cell 0 rfl, GX.cell 1 rfl⟩ | exact ⟨(GX.alloc _).cell 0 rfl, (GX.alloc _).cell 1 rfl⟩ | exact ⟨((GX.alloc _).alloc _).cell 0 rfl, ((GX.alloc _).alloc _).cell 1 rfl⟩ | exact ⟨(((GX.alloc _).alloc _).alloc _).cell 0 rfl, (((GX.alloc _).alloc _).alloc _).cell 1 rfl⟩))
      clear hK K hHeld0
      try simp only [Act.put, List.setIfInBounds_toArray, List.set_cons_zero, List.set_cons_succ]
      refine held_call2 1 6 (by kernel_rfl) rfl rfl (fun K hK => ?_) (fun K hK => ?_)
      · go_simp
        refine hK.out _ _ ?_ (fun hHeld2 => ?_)
        · first | trivial | ((try dsimp only); (first | exact ⟨GX.cell 0 rfl, GX.cell 1 rfl⟩ | exact ⟨(GX.alloc _).cell 0 rfl, (GX.alloc _).cell 1 rfl⟩ | exact ⟨((GX.alloc _).alloc _).cell 0 rfl, ((GX.alloc _).alloc _).cell 1 rfl⟩ | exact ⟨(((GX.alloc _).alloc _).alloc _).cell 0 rfl, (((GX.alloc _).alloc _).alloc _).cell 1 rfl⟩))
        clear hK K hHeld1
        try simp only [Act.put, List.setIfInBounds_toArray, List.set_cons_zero, List.set_cons_succ]
        refine held_call2 3 6 (by kernel_rfl) rfl rfl (fun K hK => ?_) (fun K hK => ?_)
        · go_simp
          go_at_call 171; refine (repeatInt_any _ 1 _ N (-2) _ (at_blk (t := 3) (by (first | (refine Blk.at_ _ _ _ ?_; (first | omega | (simp only [World.size_alloc, size_drew] <;> omega))) | (refine Blk.alloc (Blk.at_ _ _ _ ?_) _; (first | omega | (simp only [World.size_alloc, size_drew] <;> omega))) | (refine Blk.alloc (Blk.alloc (Blk.at_ _ _ _ ?_) _) _; (first | omega | (simp only [World.size_alloc, size_drew] <;> omega))))) ⟨by omega, by omega⟩) (Nat.le_refl _) (Nat.le_refl _) hN').mono ?_; rintro e wA ⟨rfl, hoA, hbA⟩; have GY := Blk.fresh (w' := wA) (by (first | exact GX | exact GX.alloc _ | exact (GX.alloc _).alloc _ | exact ((GX.alloc _).alloc _).alloc _)) hbA; clear GX; have GX := GY; clear GY; have sA := hbA.size; try simp only [World.size_alloc, size_drew] at sA
          try (go_wp2_with fail)
          refine hK.out _ _ ?_ (fun hHeld3 => ?_)
          · first | trivial | ((try dsimp only); (first | exact ⟨GX.cell 0 rfl, GX.cell 1 rfl⟩ | exact ⟨(GX.alloc _).cell 0 rfl, (GX.alloc _).cell 1 rfl⟩ | exact ⟨((GX.alloc _).alloc _).cell 0 rfl, ((GX.alloc _).alloc _).cell 1 rfl⟩ | exact ⟨(((GX.alloc _).alloc _).alloc _).cell 0 rfl, (((GX.alloc _).alloc _).alloc _).cell 1 rfl⟩))
          clear hK K hHeld2
          try simp only [Act.put, List.setIfInBounds_toArray, List.set_cons_zero, List.set_cons_succ]
          refine held_call 6 (by kernel_rfl) rfl (fun K hK => ?_)
          go_simp
          refine hK.out _ _ ?_ (fun hHeld4 => ?_)
          · first | trivial | ((try dsimp only); (first | exact ⟨GX.cell 0 rfl, GX.cell 1 rfl⟩ | exact ⟨(GX.alloc _).cell 0 rfl, (GX.alloc _).cell 1 rfl⟩ | exact ⟨((GX.alloc _).alloc _).cell 0 rfl, ((GX.alloc _).alloc _).cell 1 rfl⟩ | exact ⟨(((GX.alloc _).alloc _).alloc _).cell 0 rfl, (((GX.alloc _).alloc _).alloc _).cell 1 rfl⟩))
          clear hK K hHeld3
          try simp only [Act.put, List.setIfInBounds_toArray, List.set_cons_zero, List.set_cons_succ]
          refine held_call 8 (by kernel_rfl) rfl (fun K hK => ?_)
          go_simp
          go_at_call 171; refine (repeatInt_any _ 1 _ N (-2) _ (at_blk (t := 3) (by first | (first | (refine Blk.at_ _ _ _ ?_; (first | omega | (simp only [World.size_alloc, size_drew] <;> omega))) | (refine Blk.alloc (Blk.at_ _ _ _ ?_) _; (first | omega | (simp only [World.size_alloc, size_drew] <;> omega))) | (refine Blk.alloc (Blk.alloc (Blk.at_ _ _ _ ?_) _) _; (first | omega | (simp only [World.size_alloc, size_drew] <;> omega)))) | (refine Blk.fresh ?_ hbA; (first | (refine Blk.at_ _ _ _ ?_; (first | omega | (simp only [World.size_alloc, size_drew] <;> omega))) | (refine Blk.alloc (Blk.at_ _ _ _ ?_) _; (first | omega | (simp only [World.size_alloc, size_drew] <;> omega))) | (refine Blk.alloc (Blk.alloc (Blk.at_ _ _ _ ?_) _) _; (first | omega | (simp only [World.size_alloc, size_drew] <;> omega))))) | (refine Blk.alloc (Blk.fresh ?_ hbA) _; (first | (refine Blk.at_ _ _ _ ?_; (first | omega | (simp only [World.size_alloc, size_drew] <;> omega))) | (refine Blk.alloc (Blk.at_ _ _ _ ?_) _; (first | omega | (simp only [World.size_alloc, size_drew] <;> omega))) | (refine Blk.alloc (Blk.alloc (Blk.at_ _ _ _ ?_) _) _; (first | omega | (simp only [World.size_alloc, size_drew] <;> omega)))))) ⟨by omega, by omega⟩) (Nat.le_refl _) (Nat.le_refl _) hN').mono ?_; rintro e wB ⟨rfl, hoB, hbB⟩; have GY := Blk.fresh (w' := wB) (by (first | exact GX | exact GX.alloc _ | exact (GX.alloc _).alloc _ | exact ((GX.alloc _).alloc _).alloc _)) hbB; clear GX; have GX := GY; clear GY; have sB := hbB.size; try simp only [World.size_alloc, size_drew] at sB
          try (go_wp2_with fail)
          refine hK.out _ _ ?_ (fun hHeld5 => ?_)
          · first | trivial | ((try dsimp only); (first | exact ⟨GX.cell 0 rfl, GX.cell 1 rfl⟩ | exact ⟨(GX.alloc _).cell 0 rfl, (GX.alloc _).cell 1 rfl⟩ | exact ⟨((GX.alloc _).alloc _).cell 0 rfl, ((GX.alloc _).alloc _).cell 1 rfl⟩ | exact ⟨(((GX.alloc _).alloc _).alloc _).cell 0 rfl, (((GX.alloc _).alloc _).alloc _).cell 1 rfl⟩))
          clear hK K hHeld4
          try simp only [Act.put, List.setIfInBounds_toArray, List.set_cons_zero, List.set_cons_succ]
          refine held_take (v := ?_) 9 rfl (by kernel_rfl) (by kernel_rfl) (by kernel_rfl) (fun _ _ _ h => h) (by rfl) ?_ (by assumption) ?_
          rotate_left
          · (intro w hSw; (try dsimp only at hSw); go_simp; try with_reducible rfl)
          try simp only [Act.put, List.setIfInBounds_toArray, List.set_cons_zero, List.set_cons_succ]
          refine held_call 10 (by kernel_rfl) rfl (fun K hK => ?_)
          go_simp
          refine hK.out _ _ ?_ (fun hHeld6 => ?_)
          · first | trivial | ((try dsimp only); (first | exact ⟨GX.cell 0 rfl, GX.cell 1 rfl⟩ | exact ⟨(GX.alloc _).cell 0 rfl, (GX.alloc _).cell 1 rfl⟩ | exact ⟨((GX.alloc _).alloc _).cell 0 rfl, ((GX.alloc _).alloc _).cell 1 rfl⟩ | exact ⟨(((GX.alloc _).alloc _).alloc _).cell 0 rfl, (((GX.alloc _).alloc _).alloc _).cell 1 rfl⟩))
          clear hK K hHeld5
          try simp only [Act.put, List.setIfInBounds_toArray, List.set_cons_zero, List.set_cons_succ]
          refine held_take (v := ?_) 11 rfl (by kernel_rfl) (by kernel_rfl) (by kernel_rfl) (fun _ _ _ h => h) (by rfl) ?_ (by assumption) ?_
          rotate_left
          · (intro w hSw; (try dsimp only at hSw); go_simp; try with_reducible rfl)
          try simp only [Act.put, List.setIfInBounds_toArray, List.set_cons_zero, List.set_cons_succ]
          refine wpAnyH_done (by kernel_rfl) ?_ _
          go_wp2_with fail
          go_meet
          refine ⟨_, rfl, ⟨tr_new (by refine Blk.at_ _ _ _ ?_; (first | omega | (simp only [World.size_alloc, size_drew] <;> omega))) (by (repeat (first | (refine own_mv hoA ?_ ?_ <;> (first | omega | (simp only [World.size_alloc, size_drew] <;> omega))) | (refine Own.fresh ?_ hbB) | (with_reducible refine Own.alloc ?_ _) | (with_reducible refine Own.drew ?_)))) (by (repeat (first | (refine own_mades _ _ _ _ ?_ ?_ (by simp only [maxLen]; omega) <;> (first | omega | (simp only [World.size_alloc, size_drew] <;> omega))) | (refine Own.fresh ?_ hbB) | (refine Own.fresh ?_ hbA) | (with_reducible refine Own.alloc ?_ _) | (with_reducible refine Own.drew ?_)))) (by (repeat (first | (refine own_mv hoB ?_ ?_ <;> (first | omega | (simp only [World.size_alloc, size_drew] <;> omega))) | (with_reducible refine Own.alloc ?_ _) | (with_reducible refine Own.drew ?_)))) (by have h1 := (hoA.lt _ rfl).2; (try simp only [World.size_alloc, size_drew] at h1); first | omega | (simp only [World.size_alloc, size_drew] <;> omega)) (by (first | omega | (simp only [World.size_alloc, size_drew] <;> omega))), by (first | exact GX | exact GX.alloc _ | exact (GX.alloc _).alloc _ | exact ((GX.alloc _).alloc _).alloc _)⟩, by (repeat (first | exact hb0 | (with_reducible refine Below.drew ?_) | (with_reducible refine Below.alloc ?_ ?_ _; rotate_left; (first | omega | (simp only [World.size_alloc, size_drew] <;> omega))) | (refine Below.trans ?_ (hbB.mono ?_); rotate_left; (first | omega | (simp only [World.size_alloc, size_drew] <;> omega))) | (refine Below.trans ?_ (hbA.mono ?_); rotate_left; (first | omega | (simp only [World.size_alloc, size_drew] <;> omega)))))⟩
        · go_simp
          refine hK.out _ _ ?_ (fun hHeld3 => ?_)
          · first | trivial | ((try dsimp only); (first | exact ⟨GX.cell 0 rfl, GX.cell 1 rfl⟩ | exact ⟨(GX.alloc _).cell 0 rfl, (GX.alloc _).cell 1 rfl⟩ | exact ⟨((GX.alloc _).alloc _).cell 0 rfl, ((GX.alloc _).alloc _).cell 1 rfl⟩ | exact ⟨(((GX.alloc _).alloc _).alloc _).cell 0 rfl, (((GX.alloc _).alloc _).alloc _).cell 1 rfl⟩))
          clear hK K hHeld2
          try simp only [Act.put, List.setIfInBounds_toArray, List.set_cons_zero, List.set_cons_succ]
          refine held_call 3 (by kernel_rfl) rfl (fun K hK => ?_)
          go_simp
          go_at_call 171; refine (repeatInt_any _ 1 _ N (-2) _ (at_blk (t := 3) (by (first | (refine Blk.at_ _ _ _ ?_; (first | omega | (simp only [World.size_alloc, size_drew] <;> omega))) | (refine Blk.alloc (Blk.at_ _ _ _ ?_) _; (first | omega | (simp only [World.size_alloc, size_drew] <;> omega))) | (refine Blk.alloc (Blk.alloc (Blk.at_ _ _ _ ?_) _) _; (first | omega | (simp only [World.size_alloc, size_drew] <;> omega))))) ⟨by omega, by omega⟩) (Nat.le_refl _) (Nat.le_refl _) hN').mono ?_; rintro e wA ⟨rfl, hoA, hbA⟩; have GY := Blk.fresh (w' := wA) (by (first | exact GX | exact GX.alloc _ | exact (GX.alloc _).alloc _ | exact ((GX.alloc _).alloc _).alloc _)) hbA; clear GX; have GX := GY; clear GY; have sA := hbA.size; try simp only [World.size_alloc, size_drew] at sA
          try (go_wp2_with fail)
          refine hK.out _ _ ?_ (fun hHeld4 => ?_)
          · first | trivial | ((try dsimp only); (first | exact ⟨GX.cell 0 rfl, GX.cell 1 rfl⟩ | exact ⟨(GX.alloc _).cell 0 rfl, (GX.alloc _).cell 1 rfl⟩ | exact ⟨((GX.alloc _).alloc _).cell 0 rfl, ((GX.alloc _).alloc _).cell 1 rfl⟩ | exact ⟨(((GX.alloc _).alloc _).alloc _).cell 0 rfl, (((GX.alloc _).alloc _).alloc _).cell 1 rfl⟩))
          clear hK K hHeld3
          try simp only [Act.put, List.setIfInBounds_toArray, List.set_cons_zero, List.set_cons_succ]
          refine held_call 8 (by kernel_rfl) rfl (fun K hK => ?_)
          go_simp
          go_at_call 171; refine (repeatInt_any _ 1 _ N (-2) _ (at_blk (t := 3) (by first | (first | (refine Blk.at_ _ _ _ ?_; (first | omega | (simp only [World.size_alloc, size_drew] <;> omega))) | (refine Blk.alloc (Blk.at_ _ _ _ ?_) _; (first | omega | (simp only [World.size_alloc, size_drew] <;> omega))) | (refine Blk.alloc (Blk.alloc (Blk.at_ _ _ _ ?_) _) _; (first | omega | (simp only [World.size_alloc, size_drew] <;> omega)))) | (refine Blk.fresh ?_ hbA; (first | (refine Blk.at_ _ _ _ ?_; (first | omega | (simp only [World.size_alloc, size_drew] <;> omega))) | (refine Blk.alloc (Blk.at_ _ _ _ ?_) _; (first | omega | (simp only [World.size_alloc, size_drew] <;> omega))) | (refine Blk.alloc (Blk.alloc (Blk.at_ _ _ _ ?_) _) _; (first | omega | (simp only [World.size_alloc, size_drew] <;> omega))))) | (refine Blk.alloc (Blk.fresh ?_ hbA) _; (first | (refine Blk.at_ _ _ _ ?_; (first | omega | (simp only [World.size_alloc, size_drew] <;> omega))) | (refine Blk.alloc (Blk.at_ _ _ _ ?_) _; (first | omega | (simp only [World.size_alloc, size_drew] <;> omega))) | (refine Blk.alloc (Blk.alloc (Blk.at_ _ _ _ ?_) _) _; (first | omega | (simp only [World.size_alloc, size_drew] <;> omega)))))) ⟨by omega, by omega⟩) (Nat.le_refl _) (Nat.le_refl _) hN').mono ?_; rintro e wB ⟨rfl, hoB, hbB⟩; have GY := Blk.fresh (w' := wB) (by (first | exact GX | exact GX.alloc _ | exact (GX.alloc _).alloc _ | exact ((GX.alloc _).alloc _).alloc _)) hbB; clear GX; have GX := GY; clear GY; have sB := hbB.size; try simp only [World.size_alloc, size_drew] at sB
          try (go_wp2_with fail)
          refine hK.out _ _ ?_ (fun hHeld5 => ?_)
          · first | trivial | ((try dsimp only); (first | exact ⟨GX.cell 0 rfl, GX.cell 1 rfl⟩ | exact ⟨(GX.alloc _).cell 0 rfl, (GX.alloc _).cell 1 rfl⟩ | exact ⟨((GX.alloc _).alloc _).cell 0 rfl, ((GX.alloc _).alloc _).cell 1 rfl⟩ | exact ⟨(((GX.alloc _).alloc _).alloc _).cell 0 rfl, (((GX.alloc _).alloc _).alloc _).cell 1 rfl⟩))
          clear hK K hHeld4
          try simp only [Act.put, List.setIfInBounds_toArray, List.set_cons_zero, List.set_cons_succ]
          refine held_take (v := ?_) 9 rfl (by kernel_rfl) (by kernel_rfl) (by kernel_rfl) (fun _ _ _ h => h) (by rfl) ?_ (by assumption) ?_
          rotate_left
          · (intro w hSw; (try dsimp only at hSw); go_simp; try with_reducible rfl)
          try simp only [Act.put, List.setIfInBounds_toArray, List.set_cons_zero, List.set_cons_succ]
          refine held_call 10 (by kernel_rfl) rfl (fun K hK => ?_)
          go_simp
          refine hK.out _ _ ?_ (fun hHeld6 => ?_)
          · first | trivial | ((try dsimp only); (first | exact ⟨GX.cell 0 rfl, GX.cell 1 rfl⟩ | exact ⟨(GX.alloc _).cell 0 rfl, (GX.alloc _).cell 1 rfl⟩ | exact ⟨((GX.alloc _).alloc _).cell 0 rfl, ((GX.alloc _).alloc _).cell 1 rfl⟩ | exact ⟨(((GX.alloc _).alloc _).alloc _).cell 0 rfl, (((GX.alloc _).alloc _).alloc _).cell 1 rfl⟩))
          clear hK K hHeld5
          try simp only [Act.put, List.setIfInBounds_toArray, List.set_cons_zero, List.set_cons_succ]
          refine held_take (v := ?_) 11 rfl (by kernel_rfl) (by kernel_rfl) (by kernel_rfl) (fun _ _ _ h => h) (by rfl) ?_ (by assumption) ?_
          rotate_left
          · (intro w hSw; (try dsimp only at hSw); go_simp; try with_reducible rfl)
          try simp only [Act.put, List.setIfInBounds_toArray, List.set_cons_zero, List.set_cons_succ]
          refine wpAnyH_done (by kernel_rfl) ?_ _
          go_wp2_with fail
          go_meet
          refine ⟨_, rfl, ⟨tr_new (by refine Blk.at_ _ _ _ ?_; (first | omega | (simp only [World.size_alloc, size_drew] <;> omega))) (by (repeat (first | (refine own_mv hoA ?_ ?_ <;> (first | omega | (simp only [World.size_alloc, size_drew] <;> omega))) | (refine Own.fresh ?_ hbB) | (with_reducible refine Own.alloc ?_ _) | (with_reducible refine Own.drew ?_)))) (by (repeat (first | (refine own_mades _ _ _ _ ?_ ?_ (by simp only [maxLen]; omega) <;> (first | omega | (simp only [World.size_alloc, size_drew] <;> omega))) | (refine Own.fresh ?_ hbB) | (refine Own.fresh ?_ hbA) | (with_reducible refine Own.alloc ?_ _) | (with_reducible refine Own.drew ?_)))) (by (repeat (first | (refine own_mv hoB ?_ ?_ <;> (first | omega | (simp only [World.size_alloc, size_drew] <;> omega))) | (with_reducible refine Own.alloc ?_ _) | (with_reducible refine Own.drew ?_)))) (by have h1 := (hoA.lt _ rfl).2; (try simp only [World.size_alloc, size_drew] at h1); first | omega | (simp only [World.size_alloc, size_drew] <;> omega)) (by (first | omega | (simp only [World.size_alloc, size_drew] <;> omega))), by (first | exact GX | exact GX.alloc _ | exact (GX.alloc _).alloc _ | exact ((GX.alloc _).alloc _).alloc _)⟩, by (repeat (first | exact hb0 | (with_reducible refine Below.drew ?_) | (with_reducible refine Below.alloc ?_ ?_ _; rotate_left; (first | omega | (simp only [World.size_alloc, size_drew] <;> omega))) | (refine Below.trans ?_ (hbB.mono ?_); rotate_left; (first | omega | (simp only [World.size_alloc, size_drew] <;> omega))) | (refine Below.trans ?_ (hbA.mono ?_); rotate_left; (first | omega | (simp only [World.size_alloc, size_drew] <;> omega)))))⟩
      · go_simp
        refine hK.out _ _ ?_ (fun hHeld2 => ?_)
        · first | trivial | ((try dsimp only); (first | exact ⟨GX.cell 0 rfl, GX.cell 1 rfl⟩ | exact ⟨(GX.alloc _).cell 0 rfl, (GX.alloc _).cell 1 rfl⟩ | exact ⟨((GX.alloc _).alloc _).cell 0 rfl, ((GX.alloc _).alloc _).cell 1 rfl⟩ | exact ⟨(((GX.alloc _).alloc _).alloc _).cell 0 rfl, (((GX.alloc _).alloc _).alloc _).cell 1 rfl⟩))
        clear hK K hHeld1
        try simp only [Act.put, List.setIfInBounds_toArray, List.set_cons_zero, List.set_cons_succ]
        refine held_call 1 (by kernel_rfl) rfl (fun K hK => ?_)
        go_simp
        refine hK.out _ _ ?_ (fun hHeld3 => ?_)
        · first | trivial | ((try dsimp only); (first | exact ⟨GX.cell 0 rfl, GX.cell 1 rfl⟩ | exact ⟨(GX.alloc _).cell 0 rfl, (GX.alloc _).cell 1 rfl⟩ | exact ⟨((GX.alloc _).alloc _).cell 0 rfl, ((GX.alloc _).alloc _).cell 1 rfl⟩ | exact ⟨(((GX.alloc _).alloc _).alloc _).cell 0 rfl, (((GX.alloc _).alloc _).alloc _).cell 1 rfl⟩))
        clear hK K hHeld2
        try simp only [Act.put, List.setIfInBounds_toArray, List.set_cons_zero, List.set_cons_succ]
        refine held_call 3 (by kernel_rfl) rfl (fun K hK => ?_)
        go_simp
        go_at_call 171; refine (repeatInt_any _ 1 _ N (-2) _ (at_blk (t := 3) (by (first | (refine Blk.at_ _ _ _ ?_; (first | omega | (simp only [World.size_alloc, size_drew] <;> omega))) | (refine Blk.alloc (Blk.at_ _ _ _ ?_) _; (first | omega | (simp only [World.size_alloc, size_drew] <;> omega))) | (refine Blk.alloc (Blk.alloc (Blk.at_ _ _ _ ?_) _) _; (first | omega | (simp only [World.size_alloc, size_drew] <;> omega))))) ⟨by omega, by omega⟩) (Nat.le_refl _) (Nat.le_refl _) hN').mono ?_; rintro e wA ⟨rfl, hoA, hbA⟩; have GY := Blk.fresh (w' := wA) (by (first | exact GX | exact GX.alloc _ | exact (GX.alloc _).alloc _ | exact ((GX.alloc _).alloc _).alloc _)) hbA; clear GX; have GX := GY; clear GY; have sA := hbA.size; try simp only [World.size_alloc, size_drew] at sA
        try (go_wp2_with fail)
        refine hK.out _ _ ?_ (fun hHeld4 => ?_)
        · first | trivial | ((try dsimp only); (first | exact ⟨GX.cell 0 rfl, GX.cell 1 rfl⟩ | exact ⟨(GX.alloc _).cell 0 rfl, (GX.alloc _).cell 1 rfl⟩ | exact ⟨((GX.alloc _).alloc _).cell 0 rfl, ((GX.alloc _).alloc _).cell 1 rfl⟩ | exact ⟨(((GX.alloc _).alloc _).alloc _).cell 0 rfl, (((GX.alloc _).alloc _).alloc _).cell 1 rfl⟩))
        clear hK K hHeld3
        try simp only [Act.put, List.setIfInBounds_toArray, List.set_cons_zero, List.set_cons_succ]
        refine held_call 8 (by kernel_rfl) rfl (fun K hK => ?_)
        go_simp
        go_at_call 171; refine (repeatInt_any _ 1 _ N (-2) _ (at_blk (t := 3) (by first | (first | (refine Blk.at_ _ _ _ ?_; (first | omega | (simp only [World.size_alloc, size_drew] <;> omega))) | (refine Blk.alloc (Blk.at_ _ _ _ ?_) _; (first | omega | (simp only [World.size_alloc, size_drew] <;> omega))) | (refine Blk.alloc (Blk.alloc (Blk.at_ _ _ _ ?_) _) _; (first | omega | (simp only [World.size_alloc, size_drew] <;> omega)))) | (refine Blk.fresh ?_ hbA; (first | (refine Blk.at_ _ _ _ ?_; (first | omega | (simp only [World.size_alloc, size_drew] <;> omega))) | (refine Blk.alloc (Blk.at_ _ _ _ ?_) _; (first | omega | (simp only [World.size_alloc, size_drew] <;> omega))) | (refine Blk.alloc (Blk.alloc (Blk.at_ _ _ _ ?_) _) _; (first | omega | (simp only [World.size_alloc, size_drew] <;> omega))))) | (refine Blk.alloc (Blk.fresh ?_ hbA) _; (first | (refine Blk.at_ _ _ _ ?_; (first | omega | (simp only [World.size_alloc, size_drew] <;> omega))) | (refine Blk.alloc (Blk.at_ _ _ _ ?_) _; (first | omega | (simp only [World.size_alloc, size_drew] <;> omega))) | (refine Blk.alloc (Blk.alloc (Blk.at_ _ _ _ ?_) _) _; (first | omega | (simp only [World.size_alloc, size_drew] <;> omega)))))) ⟨by omega, by omega⟩) (Nat.le_refl _) (Nat.le_refl _) hN').mono ?_; rintro e wB ⟨rfl, hoB, hbB⟩; have GY := Blk.fresh (w' := wB) (by (first | exact GX | exact GX.alloc _ | exact (GX.alloc _).alloc _ | exact ((GX.alloc _).alloc _).alloc _)) hbB; clear GX; have GX := GY; clear GY; have sB := hbB.size; try simp only [World.size_alloc, size_drew] at sB
        try (go_wp2_with fail)
        refine hK.out _ _ ?_ (fun hHeld5 => ?_)
        · first | trivial | ((try dsimp only); (first | exact ⟨GX.cell 0 rfl, GX.cell 1 rfl⟩ | exact ⟨(GX.alloc _).cell 0 rfl, (GX.alloc _).cell 1 rfl⟩ | exact ⟨((GX.alloc _).alloc _).cell 0 rfl, ((GX.alloc _).alloc _).cell 1 rfl⟩ | exact ⟨(((GX.alloc _).alloc _).alloc _).cell 0 rfl, (((GX.alloc _).alloc _).alloc _).cell 1 rfl⟩))
        clear hK K hHeld4
        try simp only [Act.put, List.setIfInBounds_toArray, List.set_cons_zero, List.set_cons_succ]
        refine held_take (v := ?_) 9 rfl (by kernel_rfl) (by kernel_rfl) (by kernel_rfl) (fun _ _ _ h => h) (by rfl) ?_ (by assumption) ?_
        rotate_left
        · (intro w hSw; (try dsimp only at hSw); go_simp; try with_reducible rfl)
        try simp only [Act.put, List.setIfInBounds_toArray, List.set_cons_zero, List.set_cons_succ]
        refine held_call 10 (by kernel_rfl) rfl (fun K hK => ?_)
        go_simp
        refine hK.out _ _ ?_ (fun hHeld6 => ?_)
        · first | trivial | ((try dsimp only); (first | exact ⟨GX.cell 0 rfl, GX.cell 1 rfl⟩ | exact ⟨(GX.alloc _).cell 0 rfl, (GX.alloc _).cell 1 rfl⟩ | exact ⟨((GX.alloc _).alloc _).cell 0 rfl, ((GX.alloc _).alloc _).cell 1 rfl⟩ | exact ⟨(((GX.alloc _).alloc _).alloc _).cell 0 rfl, (((GX.alloc _).alloc _).alloc _).cell 1 rfl⟩))
        clear hK K hHeld5
        try simp only [Act.put, List.setIfInBounds_toArray, List.set_cons_zero, List.set_cons_succ]
        refine held_take (v := ?_) 11 rfl (by kernel_rfl) (by kernel_rfl) (by kernel_rfl) (fun _ _ _ h => h) (by rfl) ?_ (by assumption) ?_
        rotate_left
        · (intro w hSw; (try dsimp only at hSw); go_simp; try with_reducible rfl)
        try simp only [Act.put, List.setIfInBounds_toArray, List.set_cons_zero, List.set_cons_succ]
        refine wpAnyH_done (by kernel_rfl) ?_ _
        go_wp2_with fail
        go_meet
        refine ⟨_, rfl, ⟨tr_new (by refine Blk.at_ _ _ _ ?_; (first | omega | (simp only [World.size_alloc, size_drew] <;> omega))) (by (repeat (first | (refine own_mv hoA ?_ ?_ <;> (first | omega | (simp only [World.size_alloc, size_drew] <;> omega))) | (refine Own.fresh ?_ hbB) | (with_reducible refine Own.alloc ?_ _) | (with_reducible refine Own.drew ?_)))) (by (repeat (first | (refine own_mades _ _ _ _ ?_ ?_ (by simp only [maxLen]; omega) <;> (first | omega | (simp only [World.size_alloc, size_drew] <;> omega))) | (refine Own.fresh ?_ hbB) | (refine Own.fresh ?_ hbA) | (with_reducible refine Own.alloc ?_ _) | (with_reducible refine Own.drew ?_)))) (by (repeat (first | (refine own_mv hoB ?_ ?_ <;> (first | omega | (simp only [World.size_alloc, size_drew] <;> omega))) | (with_reducible refine Own.alloc ?_ _) | (with_reducible refine Own.drew ?_)))) (by have h1 := (hoA.lt _ rfl).2; (try simp only [World.size_alloc, size_drew] at h1); first | omega | (simp only [World.size_alloc, size_drew] <;> omega)) (by (first | omega | (simp only [World.size_alloc, size_drew] <;> omega))), by (first | exact GX | exact GX.alloc _ | exact (GX.alloc _).alloc _ | exact ((GX.alloc _).alloc _).alloc _)⟩, by (repeat (first | exact hb0 | (with_reducible refine Below.drew ?_) | (with_reducible refine Below.alloc ?_ ?_ _; rotate_left; (first | omega | (simp only [World.size_alloc, size_drew] <;> omega))) | (refine Below.trans ?_ (hbB.mono ?_); rotate_left; (first | omega | (simp only [World.size_alloc, size_drew] <;> omega))) | (refine Below.trans ?_ (hbA.mono ?_); rotate_left; (first | omega | (simp only [World.size_alloc, size_drew] <;> omega)))))⟩
    · go_simp
      refine hK.out _ _ ?_ (fun hHeld1 => ?_)
      · first | trivial | ((try dsimp only); (first | exact ⟨GX.cell 0 rfl, GX.cell 1 rfl⟩ | exact ⟨(GX.alloc _).cell 0 rfl, (GX.alloc _).cell 1 rfl⟩ | exact ⟨((GX.alloc _).alloc _).cell 0 rfl, ((GX.alloc _).alloc _).cell 1 rfl⟩ | exact ⟨(((GX.alloc _).alloc _).alloc _).cell 0 rfl, (((GX.alloc _).alloc _).alloc _).cell 1 rfl⟩))
      clear hK K hHeld0
      try simp only [Act.put, List.setIfInBounds_toArray, List.set_cons_zero, List.set_cons_succ]
      refine held_call2 1 5 (by kernel_rfl) rfl rfl (fun K hK => ?_) (fun K hK => ?_)
      · go_simp
        refine hK.out _ _ ?_ (fun hHeld2 => ?_)
        · first | trivial | ((try dsimp only); (first | exact ⟨GX.cell 0 rfl, GX.cell 1 rfl⟩ | exact ⟨(GX.alloc _).cell 0 rfl, (GX.alloc _).cell 1 rfl⟩ | exact ⟨((GX.alloc _).alloc _).cell 0 rfl, ((GX.alloc _).alloc _).cell 1 rfl⟩ | exact ⟨(((GX.alloc _).alloc _).alloc _).cell 0 rfl, (((GX.alloc _).alloc _).alloc _).cell 1 rfl⟩))
        clear hK K hHeld1
        try simp only [Act.put, List.setIfInBounds_toArray, List.set_cons_zero, List.set_cons_succ]
        refine held_call2 3 5 (by kernel_rfl) rfl rfl (fun K hK => ?_) (fun K hK => ?_)
        · go_simp
          go_at_call 171; refine (repeatInt_any _ 1 _ N (-2) _ (at_blk (t := 3) (by (first | (refine Blk.at_ _ _ _ ?_; (first | omega | (simp only [World.size_alloc, size_drew] <;> omega))) | (refine Blk.alloc (Blk.at_ _ _ _ ?_) _; (first | omega | (simp only [World.size_alloc, size_drew] <;> omega))) | (refine Blk.alloc (Blk.alloc (Blk.at_ _ _ _ ?_) _) _; (first | omega | (simp only [World.size_alloc, size_drew] <;> omega))))) ⟨by omega, by omega⟩) (Nat.le_refl _) (Nat.le_refl _) hN').mono ?_; rintro e wA ⟨rfl, hoA, hbA⟩; have GY := Blk.fresh (w' := wA) (by (first | exact GX | exact GX.alloc _ | exact (GX.alloc _).alloc _ | exact ((GX.alloc _).alloc _).alloc _)) hbA; clear GX; have GX := GY; clear GY; have sA := hbA.size; try simp only [World.size_alloc, size_drew] at sA
          try (go_wp2_with fail)
          refine hK.out _ _ ?_ (fun hHeld3 => ?_)
          · first | trivial | ((try dsimp only); (first | exact ⟨GX.cell 0 rfl, GX.cell 1 rfl⟩ | exact ⟨(GX.alloc _).cell 0 rfl, (GX.alloc _).cell 1 rfl⟩ | exact ⟨((GX.alloc _).alloc _).cell 0 rfl, ((GX.alloc _).alloc _).cell 1 rfl⟩ | exact ⟨(((GX.alloc _).alloc _).alloc _).cell 0 rfl, (((GX.alloc _).alloc _).alloc _).cell 1 rfl⟩))
          clear hK K hHeld2
          try simp only [Act.put, List.setIfInBounds_toArray, List.set_cons_zero, List.set_cons_succ]
          refine held_call2 5 8 (by kernel_rfl) rfl rfl (fun K hK => ?_) (fun K hK => ?_)
          · go_simp
            refine hK.out _ _ ?_ (fun hHeld4 => ?_)
            · first | trivial | ((try dsimp only); (first | exact ⟨GX.cell 0 rfl, GX.cell 1 rfl⟩ | exact ⟨(GX.alloc _).cell 0 rfl, (GX.alloc _).cell 1 rfl⟩ | exact ⟨((GX.alloc _).alloc _).cell 0 rfl, ((GX.alloc _).alloc _).cell 1 rfl⟩ | exact ⟨(((GX.alloc _).alloc _).alloc _).cell 0 rfl, (((GX.alloc _).alloc _).alloc _).cell 1 rfl⟩))
            clear hK K hHeld3
            try simp only [Act.put, List.setIfInBounds_toArray, List.set_cons_zero, List.set_cons_succ]
            refine held_call 8 (by kernel_rfl) rfl (fun K hK => ?_)
            go_simp
            go_at_call 171; refine (repeatInt_any _ 1 _ N (-2) _ (at_blk (t := 3) (by first | (first | (refine Blk.at_ _ _ _ ?_; (first | omega | (simp only [World.size_alloc, size_drew] <;> omega))) | (refine Blk.alloc (Blk.at_ _ _ _ ?_) _; (first | omega | (simp only [World.size_alloc, size_drew] <;> omega))) | (refine Blk.alloc (Blk.alloc (Blk.at_ _ _ _ ?_) _) _; (first | omega | (simp only [World.size_alloc, size_drew] <;> omega)))) | (refine Blk.fresh ?_ hbA; (first | (refine Blk.at_ _ _ _ ?_; (first | omega | (simp only [World.size_alloc, size_drew] <;> omega))) | (refine Blk.alloc (Blk.at_ _ _ _ ?_) _; (first | omega | (simp only [World.size_alloc, size_drew] <;> omega))) | (refine Blk.alloc (Blk.alloc (Blk.at_ _ _ _ ?_) _) _; (first | omega | (simp only [World.size_alloc, size_drew] <;> omega))))) | (refine Blk.alloc (Blk.fresh ?_ hbA) _; (first | (refine Blk.at_ _ _ _ ?_; (first | omega | (simp only [World.size_alloc, size_drew] <;> omega))) | (refine Blk.alloc (Blk.at_ _ _ _ ?_) _; (first | omega | (simp only [World.size_alloc, size_drew] <;> omega))) | (refine Blk.alloc (Blk.alloc (Blk.at_ _ _ _ ?_) _) _; (first | omega | (simp only [World.size_alloc, size_drew] <;> omega)))))) ⟨by omega, by omega⟩) (Nat.le_refl _) (Nat.le_refl _) hN').mono ?_; rintro e wB ⟨rfl, hoB, hbB⟩; have GY := Blk.fresh (w' := wB) (by (first | exact GX | exact GX.alloc _ | exact (GX.alloc _).alloc _ | exact ((GX.alloc _).alloc _).alloc _)) hbB; clear GX; have GX := GY; clear GY; have sB := hbB.size; try simp only [World.size_alloc, size_drew] at sB
            try (go_wp2_with fail)
            refine hK.out _ _ ?_ (fun hHeld5 => ?_)
            · first | trivial | ((try dsimp only); (first | exact ⟨GX.cell 0 rfl, GX.cell 1 rfl⟩ | exact ⟨(GX.alloc _).cell 0 rfl, (GX.alloc _).cell 1 rfl⟩ | exact ⟨((GX.alloc _).alloc _).cell 0 rfl, ((GX.alloc _).alloc _).cell 1 rfl⟩ | exact ⟨(((GX.alloc _).alloc _).alloc _).cell 0 rfl, (((GX.alloc _).alloc _).alloc _).cell 1 rfl⟩))
            clear hK K hHeld4
            try simp only [Act.put, List.setIfInBounds_toArray, List.set_cons_zero, List.set_cons_succ]
            refine held_take (v := ?_) 9 rfl (by kernel_rfl) (by kernel_rfl) (by kernel_rfl) (fun _ _ _ h => h) (by rfl) ?_ (by assumption) ?_
            rotate_left
            · (intro w hSw; (try dsimp only at hSw); go_simp; try with_reducible rfl)
            try simp only [Act.put, List.setIfInBounds_toArray, List.set_cons_zero, List.set_cons_succ]
            refine held_call 10 (by kernel_rfl) rfl (fun K hK => ?_)
            go_simp
            refine hK.out _ _ ?_ (fun hHeld6 => ?_)
            · first | trivial | ((try dsimp only); (first | exact ⟨GX.cell 0 rfl, GX.cell 1 rfl⟩ | exact ⟨(GX.alloc _).cell 0 rfl, (GX.alloc _).cell 1 rfl⟩ | exact ⟨((GX.alloc _).alloc _).cell 0 rfl, ((GX.alloc _).alloc _).cell 1 rfl⟩ | exact ⟨(((GX.alloc _).alloc _).alloc _).cell 0 rfl, (((GX.alloc _).alloc _).alloc _).cell 1 rfl⟩))
            clear hK K hHeld5
            try simp only [Act.put, List.setIfInBounds_toArray, List.set_cons_zero, List.set_cons_succ]
            refine held_take (v := ?_) 11 rfl (by kernel_rfl) (by kernel_rfl) (by kernel_rfl) (fun _ _ _ h => h) (by rfl) ?_ (by assumption) ?_
            rotate_left
            · (intro w hSw; (try dsimp only at hSw); go_simp; try with_reducible rfl)
            try simp only [Act.put, List.setIfInBounds_toArray, List.set_cons_zero, List.set_cons_succ]
            refine wpAnyH_done (by kernel_rfl) ?_ _
            go_wp2_with fail
            go_meet
            refine ⟨_, rfl, ⟨tr_new (by refine Blk.at_ _ _ _ ?_; (first | omega | (simp only [World.size_alloc, size_drew] <;> omega))) (by (repeat (first | (refine own_mv hoA ?_ ?_ <;> (first | omega | (simp only [World.size_alloc, size_drew] <;> omega))) | (refine Own.fresh ?_ hbB) | (with_reducible refine Own.alloc ?_ _) | (with_reducible refine Own.drew ?_)))) (by (repeat (first | (refine own_mades _ _ _ _ ?_ ?_ (by simp only [maxLen]; omega) <;> (first | omega | (simp only [World.size_alloc, size_drew] <;> omega))) | (refine Own.fresh ?_ hbB) | (refine Own.fresh ?_ hbA) | (with_reducible refine Own.alloc ?_ _) | (with_reducible refine Own.drew ?_)))) (by (repeat (first | (refine own_mv hoB ?_ ?_ <;> (first | omega | (simp only [World.size_alloc, size_drew] <;> omega))) | (with_reducible refine Own.alloc ?_ _) | (with_reducible refine Own.drew ?_)))) (by have h1 := (hoA.lt _ rfl).2; (try simp only [World.size_alloc, size_drew] at h1); first | omega | (simp only [World.size_alloc, size_drew] <;> omega)) (by (first | omega | (simp only [World.size_alloc, size_drew] <;> omega))), by (first | exact GX | exact GX.alloc _ | exact (GX.alloc _).alloc _ | exact ((GX.alloc _).alloc _).alloc _)⟩, by (repeat (first | exact hb0 | (with_reducible refine Below.drew ?_) | (with_reducible refine Below.alloc ?_ ?_ _; rotate_left; (first | omega | (simp only [World.size_alloc, size_drew] <;> omega))) | (refine Below.trans ?_ (hbB.mono ?_); rotate_left; (first | omega | (simp only [World.size_alloc, size_drew] <;> omega))) | (refine Below.trans ?_ (hbA.mono ?_); rotate_left; (first | omega | (simp only [World.size_alloc, size_drew] <;> omega)))))⟩
          · go_simp
            go_at_call 171; refine (repeatInt_any _ 1 _ N (-2) _ (at_blk (t := 3) (by first | (first | (refine Blk.at_ _ _ _ ?_; (first | omega | (simp only [World.size_alloc, size_drew] <;> omega))) | (refine Blk.alloc (Blk.at_ _ _ _ ?_) _; (first | omega | (simp only [World.size_alloc, size_drew] <;> omega))) | (refine Blk.alloc (Blk.alloc (Blk.at_ _ _ _ ?_) _) _; (first | omega | (simp only [World.size_alloc, size_drew] <;> omega)))) | (refine Blk.fresh ?_ hbA; (first | (refine Blk.at_ _ _ _ ?_; (first | omega | (simp only [World.size_alloc, size_drew] <;> omega))) | (refine Blk.alloc (Blk.at_ _ _ _ ?_) _; (first | omega | (simp only [World.size_alloc, size_drew] <;> omega))) | (refine Blk.alloc (Blk.alloc (Blk.at_ _ _ _ ?_) _) _; (first | omega | (simp only [World.size_alloc, size_drew] <;> omega))))) | (refine Blk.alloc (Blk.fresh ?_ hbA) _; (first | (refine Blk.at_ _ _ _ ?_; (first | omega | (simp only [World.size_alloc, size_drew] <;> omega))) | (refine Blk.alloc (Blk.at_ _ _ _ ?_) _; (first | omega | (simp only [World.size_alloc, size_drew] <;> omega))) | (refine Blk.alloc (Blk.alloc (Blk.at_ _ _ _ ?_) _) _; (first | omega | (simp only [World.size_alloc, size_drew] <;> omega)))))) ⟨by omega, by omega⟩) (Nat.le_refl _) (Nat.le_refl _) hN').mono ?_; rintro e wB ⟨rfl, hoB, hbB⟩; have GY := Blk.fresh (w' := wB) (by (first | exact GX | exact GX.alloc _ | exact (GX.alloc _).alloc _ | exact ((GX.alloc _).alloc _).alloc _)) hbB; clear GX; have GX := GY; clear GY; have sB := hbB.size; try simp only [World.size_alloc, size_drew] at sB
            try (go_wp2_with fail)
            refine hK.out _ _ ?_ (fun hHeld4 => ?_)
            · first | trivial | ((try dsimp only); (first | exact ⟨GX.cell 0 rfl, GX.cell 1 rfl⟩ | exact ⟨(GX.alloc _).cell 0 rfl, (GX.alloc _).cell 1 rfl⟩ | exact ⟨((GX.alloc _).alloc _).cell 0 rfl, ((GX.alloc _).alloc _).cell 1 rfl⟩ | exact ⟨(((GX.alloc _).alloc _).alloc _).cell 0 rfl, (((GX.alloc _).alloc _).alloc _).cell 1 rfl⟩))
            clear hK K hHeld3
            try simp only [Act.put, List.setIfInBounds_toArray, List.set_cons_zero, List.set_cons_succ]
            refine held_call 5 (by kernel_rfl) rfl (fun K hK => ?_)
            go_simp
            refine hK.out _ _ ?_ (fun hHeld5 => ?_)
            · first | trivial | ((try dsimp only); (first | exact ⟨GX.cell 0 rfl, GX.cell 1 rfl⟩ | exact ⟨(GX.alloc _).cell 0 rfl, (GX.alloc _).cell 1 rfl⟩ | exact ⟨((GX.alloc _).alloc _).cell 0 rfl, ((GX.alloc _).alloc _).cell 1 rfl⟩ | exact ⟨(((GX.alloc _).alloc _).alloc _).cell 0 rfl, (((GX.alloc _).alloc _).alloc _).cell 1 rfl⟩))
            clear hK K hHeld4
            try simp only [Act.put, List.setIfInBounds_toArray, List.set_cons_zero, List.set_cons_succ]
            refine held_take (v := ?_) 9 rfl (by kernel_rfl) (by kernel_rfl) (by kernel_rfl) (fun _ _ _ h => h) (by rfl) ?_ (by assumption) ?_
            rotate_left
            · (intro w hSw; (try dsimp only at hSw); go_simp; try with_reducible rfl)
            try simp only [Act.put, List.setIfInBounds_toArray, List.set_cons_zero, List.set_cons_succ]
            refine held_call 10 (by kernel_rfl) rfl (fun K hK => ?_)
            go_simp
            refine hK.out _ _ ?_ (fun hHeld6 => ?_)
            · first | trivial | ((try dsimp only); (first | exact ⟨GX.cell 0 rfl, GX.cell 1 rfl⟩ | exact ⟨(GX.alloc _).cell 0 rfl, (GX.alloc _).cell 1 rfl⟩ | exact ⟨((GX.alloc _).alloc _).cell 0 rfl, ((GX.alloc _).alloc _).cell 1 rfl⟩ | exact ⟨(((GX.alloc _).alloc _).alloc _).cell 0 rfl, (((GX.alloc _).alloc _).alloc _).cell 1 rfl⟩))
            clear hK K hHeld5
            try simp only [Act.put, List.setIfInBounds_toArray, List.set_cons_zero, List.set_cons_succ]
            refine held_take (v := ?_) 11 rfl (by kernel_rfl) (by kernel_rfl) (by kernel_rfl) (fun _ _ _ h => h) (by rfl) ?_ (by assumption) ?_
            rotate_left
            · (intro w hSw; (try dsimp only at hSw); go_simp; try with_reducible rfl)
            try simp only [Act.put, List.setIfInBounds_toArray, List.set_cons_zero, List.set_cons_succ]
            refine wpAnyH_done (by kernel_rfl) ?_ _
            go_wp2_with fail
            go_meet
            refine ⟨_, rfl, ⟨tr_new (by refine Blk.at_ _ _ _ ?_; (first | omega | (simp only [World.size_alloc, size_drew] <;> omega))) (by (repeat (first | (refine own_mv hoA ?_ ?_ <;> (first | omega | (simp only [World.size_alloc, size_drew] <;> omega))) | (refine Own.fresh ?_ hbB) | (with_reducible refine Own.alloc ?_ _) | (with_reducible refine Own.drew ?_)))) (by (repeat (first | (refine own_mades _ _ _ _ ?_ ?_ (by simp only [maxLen]; omega) <;> (first | omega | (simp only [World.size_alloc, size_drew] <;> omega))) | (refine Own.fresh ?_ hbB) | (refine Own.fresh ?_ hbA) | (with_reducible refine Own.alloc ?_ _) | (with_reducible refine Own.drew ?_)))) (by (repeat (first | (refine own_mv hoB ?_ ?_ <;> (first | omega | (simp only [World.size_alloc, size_drew] <;> omega))) | (with_reducible refine Own.alloc ?_ _) | (with_reducible refine Own.drew ?_)))) (by have h1 := (hoA.lt _ rfl).2; (try simp only [World.size_alloc, size_drew] at h1); first | omega | (simp only [World.size_alloc, size_drew] <;> omega)) (by (first | omega | (simp only [World.size_alloc, size_drew] <;> omega))), by (first | exact GX | exact GX.alloc _ | exact (GX.alloc _).alloc _ | exact ((GX.alloc _).alloc _).alloc _)⟩, by (repeat (first | exact hb0 | (with_reducible refine Below.drew ?_) | (with_reducible refine Below.alloc ?_ ?_ _; rotate_left; (first | omega | (simp only [World.size_alloc, size_drew] <;> omega))) | (refine Below.trans ?_ (hbB.mono ?_); rotate_left; (first | omega | (simp only [World.size_alloc, size_drew] <;> omega))) | (refine Below.trans ?_ (hbA.mono ?_); rotate_left; (first | omega | (simp only [World.size_alloc, size_drew] <;> omega)))))⟩
        · go_simp
          refine hK.out _ _ ?_ (fun hHeld3 => ?_)
          · first | trivial | ((try dsimp only); (first | exact ⟨GX.cell 0 rfl, GX.cell 1 rfl⟩ | exact ⟨(GX.alloc _).cell 0 rfl, (GX.alloc _).cell 1 rfl⟩ | exact ⟨((GX.alloc _).alloc _).cell 0 rfl, ((GX.alloc _).alloc _).cell 1 rfl⟩ | exact ⟨(((GX.alloc _).alloc _).alloc _).cell 0 rfl, (((GX.alloc _).alloc _).alloc _).cell 1 rfl⟩))
          clear hK K hHeld2
          try simp only [Act.put, List.setIfInBounds_toArray, List.set_cons_zero, List.set_cons_succ]
          refine held_call 3 (by kernel_rfl) rfl (fun K hK => ?_)
          go_simp
          go_at_call 171; refine (repeatInt_any _ 1 _ N (-2) _ (at_blk (t := 3) (by (first | (refine Blk.at_ _ _ _ ?_; (first | omega | (simp only [World.size_alloc, size_drew] <;> omega))) | (refine Blk.alloc (Blk.at_ _ _ _ ?_) _; (first | omega | (simp only [World.size_alloc, size_drew] <;> omega))) | (refine Blk.alloc (Blk.alloc (Blk.at_ _ _ _ ?_) _) _; (first | omega | (simp only [World.size_alloc, size_drew] <;> omega))))) ⟨by omega, by omega⟩) (Nat.le_refl _) (Nat.le_refl _) hN').mono ?_; rintro e wA ⟨rfl, hoA, hbA⟩; have GY := Blk.fresh (w' := wA) (by (first | exact GX | exact GX.alloc _ | exact (GX.alloc _).alloc _ | exact ((GX.alloc _).alloc _).alloc _)) hbA; clear GX; have GX := GY; clear GY; have sA := hbA.size; try simp only [World.size_alloc, size_drew] at sA
          try (go_wp2_with fail)
          refine hK.out _ _ ?_ (fun hHeld4 => ?_)
          · first | trivial | ((try dsimp only); (first | exact ⟨GX.cell 0 rfl, GX.cell 1 rfl⟩ | exact ⟨(GX.alloc _).cell 0 rfl, (GX.alloc _).cell 1 rfl⟩ | exact ⟨((GX.alloc _).alloc _).cell 0 rfl, ((GX.alloc _).alloc _).cell 1 rfl⟩ | exact ⟨(((GX.alloc _).alloc _).alloc _).cell 0 rfl, (((GX.alloc _).alloc _).alloc _).cell 1 rfl⟩))
          clear hK K hHeld3
          try simp only [Act.put, List.setIfInBounds_toArray, List.set_cons_zero, List.set_cons_succ]
          refine held_call 8 (by kernel_rfl) rfl (fun K hK => ?_)
          go_simp
          go_at_call 171; refine (repeatInt_any _ 1 _ N (-2) _ (at_blk (t := 3) (by first | (first | (refine Blk.at_ _ _ _ ?_; (first | omega | (simp only [World.size_alloc, size_drew] <;> omega))) | (refine Blk.alloc (Blk.at_ _ _ _ ?_) _; (first | omega | (simp only [World.size_alloc, size_drew] <;> omega))) | (refine Blk.alloc (Blk.alloc (Blk.at_ _ _ _ ?_) _) _; (first | omega | (simp only [World.size_alloc, size_drew] <;> omega)))) | (refine Blk.fresh ?_ hbA; (first | (refine Blk.at_ _ _ _ ?_; (first | omega | (simp only [World.size_alloc, size_drew] <;> omega))) | (refine Blk.alloc (Blk.at_ _ _ _ ?_) _; (first | omega | (simp only [World.size_alloc, size_drew] <;> omega))) | (refine Blk.alloc (Blk.alloc (Blk.at_ _ _ _ ?_) _) _; (first | omega | (simp only [World.size_alloc, size_drew] <;> omega))))) | (refine Blk.alloc (Blk.fresh ?_ hbA) _; (first | (refine Blk.at_ _ _ _ ?_; (first | omega | (simp only [World.size_alloc, size_drew] <;> omega))) | (refine Blk.alloc (Blk.at_ _ _ _ ?_) _; (first | omega | (simp only [World.size_alloc, size_drew] <;> omega))) | (refine Blk.alloc (Blk.alloc (Blk.at_ _ _ _ ?_) _) _; (first | omega | (simp only [World.size_alloc, size_drew] <;> omega)))))) ⟨by omega, by omega⟩) (Nat.le_refl _) (Nat.le_refl _) hN').mono ?_; rintro e wB ⟨rfl, hoB, hbB⟩; have GY := Blk.fresh (w' := wB) (by (first | exact GX | exact GX.alloc _ | exact (GX.alloc _).alloc _ | exact ((GX.alloc _).alloc _).alloc _)) hbB; clear GX; have GX := GY; clear GY; have sB := hbB.size; try simp only [World.size_alloc, size_drew] at sB
          try (go_wp2_with fail)
          refine hK.out _ _ ?_ (fun hHeld5 => ?_)
          · first | trivial | ((try dsimp only); (first | exact ⟨GX.cell 0 rfl, GX.cell 1 rfl⟩ | exact ⟨(GX.alloc _).cell 0 rfl, (GX.alloc _).cell 1 rfl⟩ | exact ⟨((GX.alloc _).alloc _).cell 0 rfl, ((GX.alloc _).alloc _).cell 1 rfl⟩ | exact ⟨(((GX.alloc _).alloc _).alloc _).cell 0 rfl, (((GX.alloc _).alloc _).alloc _).cell 1 rfl⟩))
          clear hK K hHeld4
          try simp only [Act.put, List.setIfInBounds_toArray, List.set_cons_zero, List.set_cons_succ]
          refine held_take (v := ?_) 9 rfl (by kernel_rfl) (by kernel_rfl) (by kernel_rfl) (fun _ _ _ h => h) (by rfl) ?_ (by assumption) ?_
          rotate_left
          · (intro w hSw; (try dsimp only at hSw); go_simp; try with_reducible rfl)
          try simp only [Act.put, List.setIfInBounds_toArray, List.set_cons_zero, List.set_cons_succ]
          refine held_call 10 (by kernel_rfl) rfl (fun K hK => ?_)
          go_simp
          refine hK.out _ _ ?_ (fun hHeld6 => ?_)
          · first | trivial | ((try dsimp only); (first | exact ⟨GX.cell 0 rfl, GX.cell 1 rfl⟩ | exact ⟨(GX.alloc _).cell 0 rfl, (GX.alloc _).cell 1 rfl⟩ | exact ⟨((GX.alloc _).alloc _).cell 0 rfl, ((GX.alloc _).alloc _).cell 1 rfl⟩ | exact ⟨(((GX.alloc _).alloc _).alloc _).cell 0 rfl, (((GX.alloc _).alloc _).alloc _).cell 1 rfl⟩))
          clear hK K hHeld5
          try simp only [Act.put, List.setIfInBounds_toArray, List.set_cons_zero, List.set_cons_succ]
          refine held_take (v := ?_) 11 rfl (by kernel_rfl) (by kernel_rfl) (by kernel_rfl) (fun _ _ _ h => h) (by rfl) ?_ (by assumption) ?_
          rotate_left
          · (intro w hSw; (try dsimp only at hSw); go_simp; try with_reducible rfl)
          try simp only [Act.put, List.setIfInBounds_toArray, List.set_cons_zero, List.set_cons_succ]
          refine wpAnyH_done (by kernel_rfl) ?_ _
          go_wp2_with fail
          go_meet
          refine ⟨_, rfl, ⟨tr_new (by refine Blk.at_ _ _ _ ?_; (first | omega | (simp only [World.size_alloc, size_drew] <;> omega))) (by (repeat (first | (refine own_mv hoA ?_ ?_ <;> (first | omega | (simp only [World.size_alloc, size_drew] <;> omega))) | (refine Own.fresh ?_ hbB) | (with_reducible refine Own.alloc ?_ _) | (with_reducible refine Own.drew ?_)))) (by (repeat (first | (refine own_mades _ _ _ _ ?_ ?_ (by simp only [maxLen]; omega) <;> (first | omega | (simp only [World.size_alloc, size_drew] <;> omega))) | (refine Own.fresh ?_ hbB) | (refine Own.fresh ?_ hbA) | (with_reducible refine Own.alloc ?_ _) | (with_reducible refine Own.drew ?_)))) (by (repeat (first | (refine own_mv hoB ?_ ?_ <;> (first | omega | (simp only [World.size_alloc, size_drew] <;> omega))) | (with_reducible refine Own.alloc ?_ _) | (with_reducible refine Own.drew ?_)))) (by have h1 := (hoA.lt _ rfl).2; (try simp only [World.size_alloc, size_drew] at h1); first | omega | (simp only [World.size_alloc, size_drew] <;> omega)) (by (first | omega | (simp only [World.size_alloc, size_drew] <;> omega))), by (first | exact GX | exact GX.alloc _ | exact (GX.alloc _).alloc _ | exact ((GX.alloc _).alloc _).alloc _)⟩, by (repeat (first | exact hb0 | (with_reducible refine Below.drew ?_) | (with_reducible refine Below.alloc ?_ ?_ _; rotate_left; (first | omega | (simp only [World.size_alloc, size_drew] <;> omega))) | (refine Below.trans ?_ (hbB.mono ?_); rotate_left; (first | omega | (simp only [World.size_alloc, size_drew] <;> omega))) | (refine Below.trans ?_ (hbA.mono ?_); rotate_left; (first | omega | (simp only [World.size_alloc, size_drew] <;> omega)))))⟩
      · go_simp
        refine hK.out _ _ ?_ (fun hHeld2 => ?_)
        · first | trivial | ((try dsimp only); (first | exact ⟨GX.cell 0 rfl, GX.cell 1 rfl⟩ | exact ⟨(GX.alloc _).cell 0 rfl, (GX.alloc _).cell 1 rfl⟩ | exact ⟨((GX.alloc _).alloc _).cell 0 rfl, ((GX.alloc _).alloc _).cell 1 rfl⟩ | exact ⟨(((GX.alloc _).alloc _).alloc _).cell 0 rfl, (((GX.alloc _).alloc _).alloc _).cell 1 rfl⟩))
        clear hK K hHeld1
        try simp only [Act.put, List.setIfInBounds_toArray, List.set_cons_zero, List.set_cons_succ]
        refine held_call 1 (by kernel_rfl) rfl (fun K hK => ?_)
        go_simp
        refine hK.out _ _ ?_ (fun hHeld3 => ?_)
        · first | trivial | ((try dsimp only); (first | exact ⟨GX.cell 0 rfl, GX.cell 1 rfl⟩ | exact ⟨(GX.alloc _).cell 0 rfl, (GX.alloc _).cell 1 rfl⟩ | exact ⟨((GX.alloc _).alloc _).cell 0 rfl, ((GX.alloc _).alloc _).cell 1 rfl⟩ | exact ⟨(((GX.alloc _).alloc _).alloc _).cell 0 rfl, (((GX.alloc _).alloc _).alloc _).cell 1 rfl⟩))
        clear hK K hHeld2
        try simp only [Act.put, List.setIfInBounds_toArray, List.set_cons_zero, List.set_cons_succ]
        refine held_call 3 (by kernel_rfl) rfl (fun K hK => ?_)
        go_simp
        go_at_call 171; refine (repeatInt_any _ 1 _ N (-2) _ (at_blk (t := 3) (by (first | (refine Blk.at_ _ _ _ ?_; (first | omega | (simp only [World.size_alloc, size_drew] <;> omega))) | (refine Blk.alloc (Blk.at_ _ _ _ ?_) _; (first | omega | (simp only [World.size_alloc, size_drew] <;> omega))) | (refine Blk.alloc (Blk.alloc (Blk.at_ _ _ _ ?_) _) _; (first | omega | (simp only [World.size_alloc, size_drew] <;> omega))))) ⟨by omega, by omega⟩) (Nat.le_refl _) (Nat.le_refl _) hN').mono ?_; rintro e wA ⟨rfl, hoA, hbA⟩; have GY := Blk.fresh (w' := wA) (by (first | exact GX | exact GX.alloc _ | exact (GX.alloc _).alloc _ | exact ((GX.alloc _).alloc _).alloc _)) hbA; clear GX; have GX := GY; clear GY; have sA := hbA.size; try simp only [World.size_alloc, size_drew] at sA
        try (go_wp2_with fail)
        refine hK.out _ _ ?_ (fun hHeld4 => ?_)
        · first | trivial | ((try dsimp only); (first | exact ⟨GX.cell 0 rfl, GX.cell 1 rfl⟩ | exact ⟨(GX.alloc _).cell 0 rfl, (GX.alloc _).cell 1 rfl⟩ | exact ⟨((GX.alloc _).alloc _).cell 0 rfl, ((GX.alloc _).alloc _).cell 1 rfl⟩ | exact ⟨(((GX.alloc _).alloc _).alloc _).cell 0 rfl, (((GX.alloc _).alloc _).alloc _).cell 1 rfl⟩))
        clear hK K hHeld3
        try simp only [Act.put, List.setIfInBounds_toArray, List.set_cons_zero, List.set_cons_succ]
        refine held_call 8 (by kernel_rfl) rfl (fun K hK => ?_)
        go_simp
        go_at_call 171; refine (repeatInt_any _ 1 _ N (-2) _ (at_blk (t := 3) (by first | (first | (refine Blk.at_ _ _ _ ?_; (first | omega | (simp only [World.size_alloc, size_drew] <;> omega))) | (refine Blk.alloc (Blk.at_ _ _ _ ?_) _; (first | omega | (simp only [World.size_alloc, size_drew] <;> omega))) | (refine Blk.alloc (Blk.alloc (Blk.at_ _ _ _ ?_) _) _; (first | omega | (simp only [World.size_alloc, size_drew] <;> omega)))) | (refine Blk.fresh ?_ hbA; (first | (refine Blk.at_ _ _ _ ?_; (first | omega | (simp only [World.size_alloc, size_drew] <;> omega))) | (refine Blk.alloc (Blk.at_ _ _ _ ?_) _; (first | omega | (simp only [World.size_alloc, size_drew] <;> omega))) | (refine Blk.alloc (Blk.alloc (Blk.at_ _ _ _ ?_) _) _; (first | omega | (simp only [World.size_alloc, size_drew] <;> omega))))) | (refine Blk.alloc (Blk.fresh ?_ hbA) _; (first | (refine Blk.at_ _ _ _ ?_; (first | omega | (simp only [World.size_alloc, size_drew] <;> omega))) | (refine Blk.alloc (Blk.at_ _ _ _ ?_) _; (first | omega | (simp only [World.size_alloc, size_drew] <;> omega))) | (refine Blk.alloc (Blk.alloc (Blk.at_ _ _ _ ?_) _) _; (first | omega | (simp only [World.size_alloc, size_drew] <;> omega)))))) ⟨by omega, by omega⟩) (Nat.le_refl _) (Nat.le_refl _) hN').mono ?_; rintro e wB ⟨rfl, hoB, hbB⟩; have GY := Blk.fresh (w' := wB) (by (first | exact GX | exact GX.alloc _ | exact (GX.alloc _).alloc _ | exact ((GX.alloc _).alloc _).alloc _)) hbB; clear GX; have GX := GY; clear GY; have sB := hbB.size; try simp only [World.size_alloc, size_drew] at sB
        try (go_wp2_with fail)
        refine hK.out _ _ ?_ (fun hHeld5 => ?_)
        · first | trivial | ((try dsimp only); (first | exact ⟨GX.cell 0 rfl, GX.cell 1 rfl⟩ | exact ⟨(GX.alloc _).cell 0 rfl, (GX.alloc _).cell 1 rfl⟩ | exact ⟨((GX.alloc _).alloc _).cell 0 rfl, ((GX.alloc _).alloc _).cell 1 rfl⟩ | exact ⟨(((GX.alloc _).alloc _).alloc _).cell 0 rfl, (((GX.alloc _).alloc _).alloc _).cell 1 rfl⟩))
        clear hK K hHeld4
        try simp only [Act.put, List.setIfInBounds_toArray, List.set_cons_zero, List.set_cons_succ]
        refine held_take (v := ?_) 9 rfl (by kernel_rfl) (by kernel_rfl) (by kernel_rfl) (fun _ _ _ h => h) (by rfl) ?_ (by assumption) ?_
        rotate_left
        · (intro w hSw; (try dsimp only at hSw); go_simp; try with_reducible rfl)
        try simp only [Act.put, List.setIfInBounds_toArray, List.set_cons_zero, List.set_cons_succ]
        refine held_call 10 (by kernel_rfl) rfl (fun K hK => ?_)
        go_simp
        refine hK.out _ _ ?_ (fun hHeld6 => ?_)
        · first | trivial | ((try dsimp only); (first | exact ⟨GX.cell 0 rfl, GX.cell 1 rfl⟩ | exact ⟨(GX.alloc _).cell 0 rfl, (GX.alloc _).cell 1 rfl⟩ | exact ⟨((GX.alloc _).alloc _).cell 0 rfl, ((GX.alloc _).alloc _).cell 1 rfl⟩ | exact ⟨(((GX.alloc _).alloc _).alloc _).cell 0 rfl, (((GX.alloc _).alloc _).alloc _).cell 1 rfl⟩))
        clear hK K hHeld5
        try simp only [Act.put, List.setIfInBounds_toArray, List.set_cons_zero, List.set_cons_succ]
        refine held_take (v := ?_) 11 rfl (by kernel_rfl) (by kernel_rfl) (by kernel_rfl) (fun _ _ _ h => h) (by rfl) ?_ (by assumption) ?_
        rotate_left
        · (intro w hSw; (try dsimp only at hSw); go_simp; try with_reducible rfl)
        try simp only [Act.put, List.setIfInBounds_toArray, List.set_cons_zero, List.set_cons_succ]
        refine wpAnyH_done (by kernel_rfl) ?_ _
        go_wp2_with fail
        go_meet
        refine ⟨_, rfl, ⟨tr_new (by refine Blk.at_ _ _ _ ?_; (first | omega | (simp only [World.size_alloc, size_drew] <;> omega))) (by (repeat (first | (refine own_mv hoA ?_ ?_ <;> (first | omega | (simp only [World.size_alloc, size_drew] <;> omega))) | (refine Own.fresh ?_ hbB) | (with_reducible refine Own.alloc ?_ _) | (with_reducible refine Own.drew ?_)))) (by (repeat (first | (refine own_mades _ _ _ _ ?_ ?_ (by simp only [maxLen]; omega) <;> (first | omega | (simp only [World.size_alloc, size_drew] <;> omega))) | (refine Own.fresh ?_ hbB) | (refine Own.fresh ?_ hbA) | (with_reducible refine Own.alloc ?_ _) | (with_reducible refine Own.drew ?_)))) (by (repeat (first | (refine own_mv hoB ?_ ?_ <;> (first | omega | (simp only [World.size_alloc, size_drew] <;> omega))) | (with_reducible refine Own.alloc ?_ _) | (with_reducible refine Own.drew ?_)))) (by have h1 := (hoA.lt _ rfl).2; (try simp only [World.size_alloc, size_drew] at h1); first | omega | (simp only [World.size_alloc, size_drew] <;> omega)) (by (first | omega | (simp only [World.size_alloc, size_drew] <;> omega))), by (first | exact GX | exact GX.alloc _ | exact (GX.alloc _).alloc _ | exact ((GX.alloc _).alloc _).alloc _)⟩, by (repeat (first | exact hb0 | (with_reducible refine Below.drew ?_) | (with_reducible refine Below.alloc ?_ ?_ _; rotate_left; (first | omega | (simp only [World.size_alloc, size_drew] <;> omega))) | (refine Below.trans ?_ (hbB.mono ?_); rotate_left; (first | omega | (simp only [World.size_alloc, size_drew] <;> omega))) | (refine Below.trans ?_ (hbA.mono ?_); rotate_left; (first | omega | (simp only [World.size_alloc, size_drew] <;> omega)))))⟩
  case rest =>
    obtain ⟨T, rfl, hk, hbc⟩ := hcut
    clear g0 g1 HG hs0 hb0
    have hst := (w_start (has := has) (roots := roots))
    rw [HH.out.2.2.2.2.2.1] at hst
    have HS := Lib.hid (And.intro hk.out hst); clear hk hst hmk
    have g1 := HS.out.1.2.cell 1 (v := .slice RA rn rc) rfl
    go_wp2_with fail
    clear g1
    go_loopg [26] rn (fun gk iv wr => ∃ (k : Nat) (s : WS), k ≤ rn ∧ gk = rn - k ∧ iv = .int .i64 k ∧ Hid (TrS wr w.heap.size T (.slice HA N hc) (.slice RA rn rc) (List.replicate N (-2)) s ∧ WInv has roots s ∧ (∀ k', ¬ s.grey k') ∧ ∀ (i r : Nat), i < k → roots[i]? = some (r : Int) → s.vis r ∧ ∀ fl, s.fr[r]? = some fl → (-1 : Int) ∈ fl) ∧ tot s.fr + 10 * unv s.pl ≤ 1000 + k ∧ s.or.length + unv s.pl ≤ 100 ∧ Below w.heap.size w wr)
    case atStart =>
      have hu := unv_le (List.replicate N (-2 : Int))
      rw [List.length_replicate] at hu
      exact ⟨0, ⟨List.replicate N (-2), [], List.replicate N []⟩, Nat.zero_le _, rfl, rfl, ⟨HS.out.1.1, HS.out.2.1, HS.out.2.2.1, fun i r h => absurd h (by omega)⟩, by have := HS.out.2.2.2; simp only; omega, by simp only [List.length_nil]; omega, hbc⟩
    case round =>
      obtain ⟨k, s, hkr, rfl, rfl, hkeep, ht1, ht2, hbl⟩ := hrel
      have hsz := hbl.size
      by_cases hlt : k < rn
      · obtain ⟨b, o, x, rfl, hb', hx, hox, q0⟩ := (HH.out.2.1.below (hbl.mono hB)).int_ (k := k) (by have := HH.out.2.2.2.2.2.2; omega)
        obtain ⟨r, rfl, hrN⟩ := HH.out.2.2.2.1 x (List.mem_of_getElem? hx)
        rw [HH.out.2.2.2.2.2.1] at hrN
        have k0 : (0 : Int) ≤ (k : Int) := by omega
        have k1 : (k : Int) < (rn : Int) := by omega
        have r0 : (0 : Int) ≤ (r : Int) := by omega
        have r1 : (r : Int) < (N : Int) := by omega
        have hT := hkeep.out.1
        have hNe := HH.out.2.2.2.2.2.1
        have hcall := walk_any has roots HA hc B w.heap.size T (.slice (some ⟨b, o, none⟩) rn rc) (List.replicate N (-2)) HH.out.2.2.1 HH.out.2.2.2.2.1 (by omega) (unv s.pl) wr s r (Nat.le_refl _) (HH.out.1.below (hbl.mono hB)) hB hsz (by rw [hNe]; exact hT) hkeep.out.2.1 (by omega) (.root (List.mem_of_getElem? hx)) (by omega) (by omega) (.inl (List.mem_of_getElem? hx))
        rw [hNe] at hcall
        have HC := Lib.hid (And.intro hcall (And.intro hkeep.out hx)); clear hcall hkeep hx hT hox hNe
        go_wp2_with fail
        refine HC.out.1.mono ?_
        rintro e w2 ⟨rfl, ⟨s2, hT2, hI2, hE2, hv2, ht4, ht5⟩, hb2⟩
        have hs2 := hb2.size
        obtain ⟨P, O, D, FA, fc, F, hTr2, e1, e2, e3, e4⟩ := hT2
        have hFN : F.length = N := by have := congrArg List.length e3; rw [List.length_map, hI2.lf, HH.out.2.2.2.2.2.1] at this; exact this
        obtain ⟨gF, rfl, hgF1, hgF2⟩ := hTr2.row.some_ (by omega)
        obtain ⟨y, hy⟩ : ∃ y, F[r]? = some y := ⟨_, List.getElem?_eq_getElem (by omega)⟩
        have hfc : s2.fr[r]? = some y.l := by rw [← e3, List.getElem?_map, hy]; rfl
        have hyt := tot_get hfc
        obtain ⟨yn, hyn⟩ : ∃ yn, y.l.length = yn := ⟨_, rfl⟩
        have hyn2 : yn ≤ 3000 := by omega
        have q4 := hTr2.blk.cell 4 (v := .slice (some ⟨gF, 0, none⟩) F.length fc) rfl
        have hcc : w2.cell? ⟨gF, r, none⟩ = some (.slice y.A yn y.c) := by have h0 := hTr2.fcell hy; rw [hyn] at h0; exact h0
        have hTA : Tr (w2.drew.alloc (.cells #[.int .i64 (-1)] 3)) w.heap.size T (.slice HA N hc) (.slice (some ⟨b, o, none⟩) rn rc) P O D (some ⟨gF, 0, none⟩) fc F := hTr2.fresh ((Below.refl w2.heap.size w2).drew.alloc (Nat.le_refl _) _)
        obtain ⟨p1, p2, p3⟩ := hI2.push (x := -1) hfc (.inl ⟨rfl, List.mem_of_getElem? HC.out.2.2⟩)
        have ptot := tot_set (-1) hfc
        have HY := Lib.hid (And.intro hTA (And.intro hy (And.intro hyn (And.intro (hTA.rowF hy) (And.intro hTA.blk (And.intro hTA.row (And.intro e1 (And.intro e2 (And.intro e3 (And.intro e4 (And.intro p1 (And.intro p2 (And.intro p3 (And.intro hE2 hv2)))))))))))))); clear hTA hy hyn e1 e2 e3 e4 p1 p2 p3 hE2 hv2 hI2 hfc hTr2 hyt
        have hkd : w2.drew.cell? ⟨gF, r, none⟩ = some (.slice y.A yn y.c) := hcc
        have hka : (w2.drew.alloc (.cells #[.int .i64 (-1)] 3)).cell? ⟨gF, r, none⟩ = some (.slice y.A yn y.c) := (World.cell?_alloc_lt w2.drew _ _ (show gF < w2.heap.size by omega)).trans hcc
        have q4a : (w2.drew.alloc (.cells #[.int .i64 (-1)] 3)).cell? ⟨T, 4, none⟩ = some (.slice (some ⟨gF, 0, none⟩) F.length fc) := HY.out.2.2.2.2.1.cell 4 rfl
        go_upto_region 7 with fail
        refine wp_region_held_drew (S := (fun w' => w'.cell? ⟨T, 4, none⟩ = some (.slice (some ⟨gF, 0, none⟩) F.length fc))) (by kernel_rfl) ?_ (fun hHeld0 => ?_)
        · first | trivial | ((try dsimp only); (first | exact q4' | exact q4 | exact q4a))
        refine held_take (v := ?_) 0 rfl (by kernel_rfl) (by kernel_rfl) (by kernel_rfl) (fun _ _ _ h => h) (by rfl) ?_ (by assumption) ?_
        rotate_left
        · (intro w hSw; (try dsimp only at hSw); go_simp; try with_reducible rfl)
        try simp only [Act.put, List.setIfInBounds_toArray, List.set_cons_zero, List.set_cons_succ]
        refine held_take (v := ?_) 1 rfl (by kernel_rfl) (by kernel_rfl) (by kernel_rfl) (fun _ _ _ h => h) (by rfl) ?_ (by assumption) ?_
        rotate_left
        · (intro w hSw; (try dsimp only at hSw); go_simp; try with_reducible rfl)
        try simp only [Act.put, List.setIfInBounds_toArray, List.set_cons_zero, List.set_cons_succ]
        refine held_take (v := ?_) 2 rfl (by kernel_rfl) (by kernel_rfl) (by kernel_rfl) (fun _ _ _ h => h) (by rfl) ?_ (by assumption) ?_
        rotate_left
        · (intro w hSw; (try dsimp only at hSw); go_simp; try with_reducible rfl)
        try simp only [Act.put, List.setIfInBounds_toArray, List.set_cons_zero, List.set_cons_succ]
        refine held_take (v := ?_) 3 rfl (by kernel_rfl) (by kernel_rfl) (by kernel_rfl) (fun _ _ _ h => h) (by rfl) ?_ (by assumption) ?_
        rotate_left
        · (intro w hSw; (try dsimp only at hSw); go_simp; try with_reducible rfl)
        try simp only [Act.put, List.setIfInBounds_toArray, List.set_cons_zero, List.set_cons_succ]
        refine held_take (v := ?_) 4 rfl (by kernel_rfl) (by kernel_rfl) (by kernel_rfl) (fun _ _ _ h => h) (by rfl) ?_ (by assumption) ?_
        rotate_left
        · (intro w hSw; (try dsimp only at hSw); go_simp; try with_reducible rfl)
        try simp only [Act.put, List.setIfInBounds_toArray, List.set_cons_zero, List.set_cons_succ]
        refine held_take (v := ?_) 5 rfl (by kernel_rfl) (by kernel_rfl) (by kernel_rfl) (fun _ _ _ h => h) (by rfl) ?_ (by assumption) ?_
        rotate_left
        · (intro w hSw; (try dsimp only at hSw); go_simp; try with_reducible rfl)
        try simp only [Act.put, List.setIfInBounds_toArray, List.set_cons_zero, List.set_cons_succ]
        refine held_take (v := ?_) 6 rfl (by kernel_rfl) (by kernel_rfl) (by kernel_rfl) (fun _ _ _ h => h) (by rfl) ?_ (by assumption) ?_
        rotate_left
        · (intro w hSw; (try dsimp only at hSw); go_simp; try with_reducible rfl)
        try simp only [Act.put, List.setIfInBounds_toArray, List.set_cons_zero, List.set_cons_succ]
        refine held_take (v := ?_) 7 rfl (by kernel_rfl) (by kernel_rfl) (by kernel_rfl) (fun _ _ _ h => h) (by rfl) ?_ (by assumption) ?_
        rotate_left
        · (intro w hSw; (try dsimp only at hSw); go_simp; try with_reducible rfl)
        try simp only [Act.put, List.setIfInBounds_toArray, List.set_cons_zero, List.set_cons_succ]
        refine held_take (v := ?_) 8 rfl (by kernel_rfl) (by kernel_rfl) (by kernel_rfl) (fun _ _ _ h => h) (by rfl) ?_ (by assumption) ?_
        rotate_left
        · (intro w hSw; (try dsimp only at hSw); go_simp; try with_reducible rfl)
        try simp only [Act.put, List.setIfInBounds_toArray, List.set_cons_zero, List.set_cons_succ]
        refine held_take (v := ?_) 9 rfl (by kernel_rfl) (by kernel_rfl) (by kernel_rfl) (fun _ _ _ h => h) (by rfl) ?_ (by assumption) ?_
        rotate_left
        · (intro w hSw; (try dsimp only at hSw); go_simp; try with_reducible rfl)
        try simp only [Act.put, List.setIfInBounds_toArray, List.set_cons_zero, List.set_cons_succ]
        refine held_take (v := ?_) 10 rfl (by kernel_rfl) (by kernel_rfl) (by kernel_rfl) (fun _ _ _ h => h) (by rfl) ?_ (by assumption) ?_
        rotate_left
        · (intro w hSw; (try dsimp only at hSw); go_simp; try with_reducible rfl)
        try simp only [Act.put, List.setIfInBounds_toArray, List.set_cons_zero, List.set_cons_succ]
        refine held_call2 11 12 (by kernel_rfl) rfl rfl (fun K hK => ?_) (fun K hK => ?_)
        · go_simp
          refine hK.out _ _ ?_ (fun hHeld1 => ?_)
          · first | trivial | ((try dsimp only); (first | exact q4' | exact q4 | exact q4a))
          clear hK K hHeld0
          try simp only [Act.put, List.setIfInBounds_toArray, List.set_cons_zero, List.set_cons_succ]
          refine held_call 12 (by kernel_rfl) rfl (fun K hK => ?_)
          go_simp
          refine hK.out _ _ ?_ (fun hHeld2 => ?_)
          · first | trivial | ((try dsimp only); (first | exact q4' | exact q4 | exact q4a))
          clear hK K hHeld1
          try simp only [Act.put, List.setIfInBounds_toArray, List.set_cons_zero, List.set_cons_succ]
          refine held_call 13 (by kernel_rfl) rfl (fun K hK => ?_)
          refine step_app (α := Int) (n := yn) (m := 1) (nm := yn + 1) (r := [(-1 : Int)]) (by rfl) (.tmp 44) (.tmp 45) _ (by rfl) w.heap.size 3 i0 _ 8 Try.underlying47 hi hz0 hz1 hz2 rfl (by decide) int_one (by rfl) HY.out.2.2.1 HY.out.2.2.2.1 (by rfl) (At.built w2.drew _ _ [(-1 : Int)] rfl (by intro z hz; simp at hz; subst hz; exact (by unfold I64; omega : I64 (-1)))) rfl rfl (by omega) (by simp only [maxLen]; omega) (by show w.heap.size ≤ (w2.drew.alloc _).heap.size; simp only [World.size_alloc]; show w.heap.size ≤ w2.heap.size + 1; omega) ?_; intro A5 c5 w5 ho5 hgr5 hat5; have hT5 : Blk w5 T 175 _ := (HY.out.2.2.2.2.1).grown hgr5 (own_ne_ty HY.out.2.2.2.1 HY.out.2.2.2.2.1 (by decide)); have hR5 : Own w5 w.heap.size 47 (some ⟨gF, 0, none⟩) fc F := HY.out.2.2.2.2.2.1.grown hgr5 (fun g hg' e => own_own_ty HY.out.2.2.2.1 HY.out.2.2.2.2.2.1 (by decide) g e hg'); have q4 := hT5.cell 4 (v := .slice (some ⟨gF, 0, none⟩) F.length fc) rfl; have qf := hR5.frozen (g := gF) rfl r; have qc : w5.cell? ⟨gF, r, none⟩ = some (.slice y.A yn y.c) := by have h0 := hR5.cells_ (g := gF) (o := 0) rfl (r * 1 + 0) (.slice y.A y.l.length y.c) ((flat_get F r 0 y HY.out.2.1 (by decide)).trans rfl); rw [HY.out.2.2.1] at h0; simpa using h0
          refine hK.out _ _ ?_ (fun hHeld3 => ?_)
          · first | trivial | ((try dsimp only); (first | exact q4' | exact q4 | exact q4a))
          clear hK K hHeld2
          try simp only [Act.put, List.setIfInBounds_toArray, List.set_cons_zero, List.set_cons_succ]
          refine held_take (v := ?_) 14 rfl (by kernel_rfl) (by kernel_rfl) (by kernel_rfl) (fun _ _ _ h => h) (by rfl) ?_ (by assumption) ?_
          rotate_left
          · (intro w hSw; (try dsimp only at hSw); go_simp; try with_reducible rfl)
          try simp only [Act.put, List.setIfInBounds_toArray, List.set_cons_zero, List.set_cons_succ]
          refine held_call 15 (by kernel_rfl) rfl (fun K hK => ?_)
          go_simp
          have hTg : T ≠ gF := fun e => own_ne_ty hR5 hT5 (by decide) (by rw [e]; rfl); have q4' := ((hT5.far (p := ⟨gF, r, none⟩) hTg (.slice A5 (yn + 1) c5)).cell 4 (v := .slice (some ⟨gF, 0, none⟩) F.length fc) rfl)
          refine hK.out _ _ ?_ (fun hHeld4 => ?_)
          · first | trivial | ((try dsimp only); (first | exact q4' | exact q4 | exact q4a))
          clear hK K hHeld3
          try simp only [Act.put, List.setIfInBounds_toArray, List.set_cons_zero, List.set_cons_succ]
          refine wpAnyH_done (by kernel_rfl) ?_ _
          go_wp2_with fail
          go_roundg (rn - (k + 1))
          case measure => omega
          case rel =>
            have hF := Tr.pushF HY.out.1 rfl HY.out.2.1 ho5 hgr5 hat5 (by unfold I64; omega : I64 (-1))
            rw [HY.out.2.2.1] at hF
            obtain ⟨_, _, _, _, _, _, e1, e2, e3, e4, p1, p2, p3, hE2, hv2⟩ := HY.out
            refine ⟨k + 1, { s2 with fr := s2.fr.set r (y.l ++ [(-1 : Int)]) }, by omega, rfl, by go_num, ⟨⟨P, O, D, _, fc, _, hF, e1, e2, by rw [map_set_l, e3], e4⟩, p1, fun k' hk' => HC.out.2.1.2.2.1 k' ((hE2.grey k').1 ((p2.grey k').1 hk')), fun i r' hi2 hr2 => ?_⟩, by show tot (s2.fr.set r (y.l ++ [(-1 : Int)])) + 10 * unv s2.pl ≤ _; omega, by show s2.or.length + unv s2.pl ≤ _; omega, ?_⟩
            · by_cases e : i < k
              · obtain ⟨h1, h2⟩ := HC.out.2.1.2.2.2 i r' e hr2
                exact ⟨p2.mono r' (hE2.mono r' h1), p2.has_ (hE2.has_ h2)⟩
              · obtain rfl : i = k := by omega
                rw [HC.out.2.2] at hr2
                injection hr2 with hr2
                obtain rfl : r = r' := by omega
                exact ⟨p2.mono r hv2, p3⟩
            · refine Below.setCell (((hbl.trans (hb2.mono (by omega))).drew.alloc (by show w.heap.size ≤ w2.heap.size; omega) _).grown hgr5 (by simp only [World.size_alloc]; show w.heap.size ≤ w2.heap.size + 1; omega) (fun g hg => (HY.out.2.2.2.1.lt g hg).1)) (by simp only; omega) _
        · go_simp
          refine hK.out _ _ ?_ (fun hHeld1 => ?_)
          · first | trivial | ((try dsimp only); (first | exact q4' | exact q4 | exact q4a))
          clear hK K hHeld0
          try simp only [Act.put, List.setIfInBounds_toArray, List.set_cons_zero, List.set_cons_succ]
          refine held_call 11 (by kernel_rfl) rfl (fun K hK => ?_)
          go_simp
          refine hK.out _ _ ?_ (fun hHeld2 => ?_)
          · first | trivial | ((try dsimp only); (first | exact q4' | exact q4 | exact q4a))
          clear hK K hHeld1
          try simp only [Act.put, List.setIfInBounds_toArray, List.set_cons_zero, List.set_cons_succ]
          refine held_call 13 (by kernel_rfl) rfl (fun K hK => ?_)
          refine step_app (α := Int) (n := yn) (m := 1) (nm := yn + 1) (r := [(-1 : Int)]) (by rfl) (.tmp 44) (.tmp 45) _ (by rfl) w.heap.size 3 i0 _ 8 Try.underlying47 hi hz0 hz1 hz2 rfl (by decide) int_one (by rfl) HY.out.2.2.1 HY.out.2.2.2.1 (by rfl) (At.built w2.drew _ _ [(-1 : Int)] rfl (by intro z hz; simp at hz; subst hz; exact (by unfold I64; omega : I64 (-1)))) rfl rfl (by omega) (by simp only [maxLen]; omega) (by show w.heap.size ≤ (w2.drew.alloc _).heap.size; simp only [World.size_alloc]; show w.heap.size ≤ w2.heap.size + 1; omega) ?_; intro A5 c5 w5 ho5 hgr5 hat5; have hT5 : Blk w5 T 175 _ := (HY.out.2.2.2.2.1).grown hgr5 (own_ne_ty HY.out.2.2.2.1 HY.out.2.2.2.2.1 (by decide)); have hR5 : Own w5 w.heap.size 47 (some ⟨gF, 0, none⟩) fc F := HY.out.2.2.2.2.2.1.grown hgr5 (fun g hg' e => own_own_ty HY.out.2.2.2.1 HY.out.2.2.2.2.2.1 (by decide) g e hg'); have q4 := hT5.cell 4 (v := .slice (some ⟨gF, 0, none⟩) F.length fc) rfl; have qf := hR5.frozen (g := gF) rfl r; have qc : w5.cell? ⟨gF, r, none⟩ = some (.slice y.A yn y.c) := by have h0 := hR5.cells_ (g := gF) (o := 0) rfl (r * 1 + 0) (.slice y.A y.l.length y.c) ((flat_get F r 0 y HY.out.2.1 (by decide)).trans rfl); rw [HY.out.2.2.1] at h0; simpa using h0
          refine hK.out _ _ ?_ (fun hHeld3 => ?_)
          · first | trivial | ((try dsimp only); (first | exact q4' | exact q4 | exact q4a))
          clear hK K hHeld2
          try simp only [Act.put, List.setIfInBounds_toArray, List.set_cons_zero, List.set_cons_succ]
          refine held_take (v := ?_) 14 rfl (by kernel_rfl) (by kernel_rfl) (by kernel_rfl) (fun _ _ _ h => h) (by rfl) ?_ (by assumption) ?_
          rotate_left
          · (intro w hSw; (try dsimp only at hSw); go_simp; try with_reducible rfl)
          try simp only [Act.put, List.setIfInBounds_toArray, List.set_cons_zero, List.set_cons_succ]
          refine held_call 15 (by kernel_rfl) rfl (fun K hK => ?_)
          go_simp
          have hTg : T ≠ gF := fun e => own_ne_ty hR5 hT5 (by decide) (by rw [e]; rfl); have q4' := ((hT5.far (p := ⟨gF, r, none⟩) hTg (.slice A5 (yn + 1) c5)).cell 4 (v := .slice (some ⟨gF, 0, none⟩) F.length fc) rfl)
          refine hK.out _ _ ?_ (fun hHeld4 => ?_)
          · first | trivial | ((try dsimp only); (first | exact q4' | exact q4 | exact q4a))
          clear hK K hHeld3
          try simp only [Act.put, List.setIfInBounds_toArray, List.set_cons_zero, List.set_cons_succ]
          refine wpAnyH_done (by kernel_rfl) ?_ _
          go_wp2_with fail
          go_roundg (rn - (k + 1))
          case measure => omega
          case rel =>
            have hF := Tr.pushF HY.out.1 rfl HY.out.2.1 ho5 hgr5 hat5 (by unfold I64; omega : I64 (-1))
            rw [HY.out.2.2.1] at hF
            obtain ⟨_, _, _, _, _, _, e1, e2, e3, e4, p1, p2, p3, hE2, hv2⟩ := HY.out
            refine ⟨k + 1, { s2 with fr := s2.fr.set r (y.l ++ [(-1 : Int)]) }, by omega, rfl, by go_num, ⟨⟨P, O, D, _, fc, _, hF, e1, e2, by rw [map_set_l, e3], e4⟩, p1, fun k' hk' => HC.out.2.1.2.2.1 k' ((hE2.grey k').1 ((p2.grey k').1 hk')), fun i r' hi2 hr2 => ?_⟩, by show tot (s2.fr.set r (y.l ++ [(-1 : Int)])) + 10 * unv s2.pl ≤ _; omega, by show s2.or.length + unv s2.pl ≤ _; omega, ?_⟩
            · by_cases e : i < k
              · obtain ⟨h1, h2⟩ := HC.out.2.1.2.2.2 i r' e hr2
                exact ⟨p2.mono r' (hE2.mono r' h1), p2.has_ (hE2.has_ h2)⟩
              · obtain rfl : i = k := by omega
                rw [HC.out.2.2] at hr2
                injection hr2 with hr2
                obtain rfl : r = r' := by omega
                exact ⟨p2.mono r hv2, p3⟩
            · refine Below.setCell (((hbl.trans (hb2.mono (by omega))).drew.alloc (by show w.heap.size ≤ w2.heap.size; omega) _).grown hgr5 (by simp only [World.size_alloc]; show w.heap.size ≤ w2.heap.size + 1; omega) (fun g hg => (HY.out.2.2.2.1.lt g hg).1)) (by simp only; omega) _
      · obtain rfl : rn = k := by omega
        have hol : s.or.length ≤ 100 := by omega
        have hdt := DT.of HH.out.2.2.1 HH.out.2.2.2.1 hkeep.out.2.1 hkeep.out.2.2.1 (fun r hr => by
          obtain ⟨i, hi2, e⟩ := List.mem_iff_getElem.1 hr
          exact hkeep.out.2.2.2 i r (by have := HH.out.2.2.2.2.2.2; omega) (by rw [List.getElem?_eq_getElem hi2, e])) (by omega)
        obtain ⟨⟨PA, pc, p0⟩, ⟨OA, oc, o0⟩, D, FA, fc, F, hTr, e1, e2, e3, e4⟩ := hkeep.out.1
        simp only at e1 e2
        subst e1
        subst e2
        obtain ⟨q, hq⟩ : ∃ q, s.or.length = q := ⟨_, rfl⟩
        have hq100 : q ≤ 100 := by omega
        have c3 := hTr.blk.cell 3 (v := .slice OA s.or.length oc) rfl
        rw [hq] at c3
        have hoi : ∀ x ∈ s.or, I64 x := fun x hx => (hTr.rs.sub 1 _ rfl).2 x hx
        have HD := Lib.hid (And.intro hdt (And.intro hTr (And.intro e3 (And.intro e4 (And.intro hq (And.intro hoi (hkeep.out.2.1.lp.trans HH.out.2.2.2.2.2.1))))))); clear hdt hTr e3 e4 hq hoi hkeep hol
        go_wp2_with fail
        refine (reverse_own wr w.heap.size q OA oc s.or HD.out.2.2.2.2.1 (by omega) HD.out.2.1.rowO).mono ?_
        rintro e w2 ⟨rfl, ho2, hg2⟩
        have hs2 := hg2.size
        have hb2 : Below w.heap.size w w2 := hbl.grown hg2 hsz (fun g hg => (HD.out.2.1.rowO.lt g hg).1)
        have hT2 := HD.out.2.1.newO ho2 hg2 List.length_reverse (fun k hk => HD.out.2.2.2.2.2.1 k (List.mem_reverse.1 hk))
        have c3' := hT2.blk.cell 3 (v := .slice OA s.or.reverse.length oc) rfl
        rw [List.length_reverse, HD.out.2.2.2.2.1] at c3'
        have HE := Lib.hid hT2; clear hT2 ho2 hg2 c3
        obtain ⟨ORD, hORD⟩ : ∃ ORD, s.or.reverse = ORD := ⟨_, rfl⟩
        have hql : ORD.length = q := by rw [← hORD, List.length_reverse]; exact HD.out.2.2.2.2.1
        have HE2 := Lib.hid (show Tr w2 w.heap.size T (.slice HA N hc) (.slice RA rn rc) ⟨PA, pc, plcK ORD s.pl 0⟩ ⟨OA, oc, ORD⟩ D FA fc F ∧ DT has roots (plcK ORD s.pl ORD.length) ORD s.fr by rw [plcK_zero, ← hORD]; exact ⟨HE.out, HD.out.1⟩)
        have HQ := Lib.hid hql; clear hql HE
        go_wp2_with fail
        clear c3'
        go_loopg [59] q (fun gk iv wt => ∃ i : Nat, i ≤ q ∧ gk = q - i ∧ iv = .int .i64 i ∧ Hid (Tr wt w.heap.size T (.slice HA N hc) (.slice RA rn rc) ⟨PA, pc, plcK ORD s.pl i⟩ ⟨OA, oc, ORD⟩ D FA fc F) ∧ Below w.heap.size w wt)
        case atStart => exact ⟨0, Nat.zero_le _, rfl, rfl, HE2.out.1, hb2⟩
        case round =>
          clear hbl hsz
          obtain ⟨i, hiq, rfl, rfl, hkeep, hbl⟩ := hrel
          have hsz := hbl.size
          by_cases hlt2 : i < q
          · obtain ⟨x, hx⟩ : ∃ x, ORD[i]? = some x := ⟨_, List.getElem?_eq_getElem (by have := HQ.out; omega)⟩
            obtain ⟨n, rfl⟩ := HE2.out.2.nat x (List.mem_of_getElem? hx)
            have hnN : n < N := by have := vn_lt HH.out.2.2.1 HH.out.2.2.2.1 ((HE2.out.2.mem n).1 (List.mem_of_getElem? hx)); have := HH.out.2.2.2.2.2.1; omega
            have hTw := hkeep.out
            obtain ⟨gO, rfl, -, -⟩ := hTw.rowO.some_ (by simp only; have := HQ.out; omega)
            have x0 := hTw.rowO.cell_int hx
            have hPN : (plcK ORD s.pl i).length = N := by rw [plcK_length]; exact HD.out.2.2.2.2.2.2
            obtain ⟨gP, rfl, hgP, -⟩ := hTw.rowP.some_ (by simp only; omega)
            have c2 := hTw.blk.cell 2 (v := .slice (some ⟨gP, 0, none⟩) (plcK ORD s.pl i).length pc) rfl
            rw [hPN] at c2
            obtain ⟨v0, hv0⟩ : ∃ v0, (plcK ORD s.pl i)[n]? = some v0 := ⟨_, List.getElem?_eq_getElem (by omega)⟩
            have p0 := hTw.rowP.cell_int hv0
            have z0 := hTw.rowP.frozen (g := gP) rfl n
            have hset := hTw.setP (g := gP) (n := n) (v := (i : Int)) rfl (by simp only; omega) (by unfold I64; omega)
            have hst := plcK_step (PL := s.pl) HE2.out.2.nd hx (by have := HD.out.2.2.2.2.2.2; omega)
            have i0 : (0 : Int) ≤ (i : Int) := by omega
            have i1 : (i : Int) < (q : Int) := by omega
            have n0 : (0 : Int) ≤ (n : Int) := by omega
            have n1 : (n : Int) < (N : Int) := by omega
            have HX := Lib.hid (And.intro hset hst); clear hset hst hTw hkeep hx hv0
            go_wp2_with fail
            go_roundg (q - (i + 1))
            case measure => omega
            case rel => exact ⟨i + 1, by omega, rfl, by go_num, by unfold Hid; rw [HX.out.2]; exact HX.out.1, hbl.setCell hgP _⟩
          · obtain rfl : q = i := by omega
            have hk2 := hkeep.out
            rw [← HQ.out] at hk2
            have hRd : Rd has roots (plcK ORD s.pl ORD.length) ORD s.fr := ⟨HE2.out.2, HH.out.2.2.1, HH.out.2.2.2.1, by have := HH.out.2.2.2.2.2.1; omega⟩
            have hd0 : DvG has roots ORD (List.replicate N (-2)) 0 := by have := dv_start (has := has) (roots := roots) HH.out.2.2.1 HH.out.2.2.2.1 (pl := plO ORD); rw [HH.out.2.2.2.2.2.1] at this; unfold DvG; rw [HH.out.2.2.2.2.2.1]; exact this
            have hTD : TrD wr w.heap.size T (.slice HA N hc) (.slice RA rn rc) (plcK ORD s.pl ORD.length) ORD s.fr (List.replicate N (-2)) := ⟨_, _, D, FA, fc, F, hk2, rfl, rfl, HD.out.2.2.1, HD.out.2.2.2.1⟩
            have HR := Lib.hid (And.intro hRd (And.intro hd0 hTD)); clear hRd hd0 hTD hk2 hkeep HE2 HD HQ
            go_wp2_with fail
            go_loopg [] (mu ORD (List.replicate N (-2))) (fun gk wt => ∃ d : List Int, gk = mu ORD d ∧ Hid (TrD wt w.heap.size T (.slice HA N hc) (.slice RA rn rc) (plcK ORD s.pl ORD.length) ORD s.fr d ∧ DvG has roots ORD d 0) ∧ Below w.heap.size w wt)
            case atStart => exact ⟨_, rfl, ⟨HR.out.2.2, HR.out.2.1⟩, hbl⟩
            case round =>
              clear hbl hsz
              obtain ⟨d, hgk, hkeep, hbl⟩ := hrel
              have hsz := hbl.size
              have hround := round_any has roots _ ORD s.fr d HR.out.1 hkeep.out.2 w.heap.size T (.slice HA N hc) (.slice RA rn rc) wr hsz hkeep.out.1
              have HC := Lib.hid hround; clear hround hkeep
              go_wp2_with fail
              refine HC.out.mono ?_
              rintro e w3 ⟨⟨ch, d', rfl, hT3, hd3, hdone, hfix, hmu⟩, hb3⟩
              have hb3' : Below w.heap.size w w3 := hbl.trans hb3
              have HF := Lib.hid (And.intro hT3 (And.intro hd3 (And.intro hdone (And.intro hfix hmu)))); clear hT3 hd3 hdone hfix hmu
              cases ch with
              | true =>
                go_wp2_with fail
                go_roundg (mu ORD d')
                case measure => have := HF.out.2.2.2.2 trivial; omega
                case rel => exact ⟨d', rfl, ⟨HF.out.1, HF.out.2.1⟩, hb3'⟩
              | false =>
                go_wp2_with fail
                go_ret
                exact ⟨⟨T, _, ORD, s.fr, d', rfl, HR.out.1, HF.out.1, HF.out.2.1, HF.out.2.2.1, HF.out.2.2.2.1 trivial⟩, hb3'⟩

end Go.Proofs.Ytpkccpegdpodoaa

/- Ends: who is due, who stays for them, the rounds. No program is named here. -/
namespace Go.Proofs.Ytpkccpegdpodoaa

theorem risingE_from : ∀ (l : List Bool) (i : Nat), (risingFrom i l).Pairwise (fun x y => x < y)
  | [], i => List.Pairwise.nil
  | b :: l, i => by
    rw [risingFrom]
    split
    · refine List.Pairwise.cons (fun y hy => ?_) (risingE_from l (i + 1))
      obtain ⟨n, rfl, -⟩ := (mem_risingFrom _ _ _).1 hy
      omega
    · exact risingE_from l (i + 1)
theorem risingE (l : List Bool) : (rising l).Pairwise (fun x y => x < y) := risingE_from l 0
theorem eq_of_rising {l r : List Int} (hl : l.Pairwise (fun x y => x < y)) (hr : r.Pairwise (fun x y => x < y)) (h : ∀ x, x ∈ l ↔ x ∈ r) : l = r := by
  have hn : ∀ {l : List Int}, l.Pairwise (fun x y => x < y) → l.Nodup := fun h => h.imp (fun h => by omega)
  have hp : l.Perm r := (List.perm_ext_iff_of_nodup (hn hl) (hn hr)).2 h
  exact List.Perm.eq_of_pairwise (le := fun a b => a ≤ b) (fun a b _ _ h1 h2 => by omega) (hl.imp (fun h => by omega)) (hr.imp (fun h => by omega)) hp

section
open Go.Lib
theorem compact_mem {zs : List Int} {x : Int} (h : x ∈ compact zs) : x ∈ zs := by
  unfold compact compactUpTo at h
  obtain ⟨j, hj, rfl⟩ := List.mem_map.1 h
  have hj' := List.mem_range.1 (List.mem_filter.1 hj).1
  simp [hj']
theorem mem_compact {zs : List Int} : ∀ j : Nat, j < zs.length → zs.toArray[j]! ∈ compact zs := by
  intro j
  induction j with
  | zero =>
    intro h
    unfold compact compactUpTo
    exact List.mem_map.2 ⟨0, List.mem_filter.2 ⟨List.mem_range.2 h, by simp [keeps]⟩, rfl⟩
  | succ j ih =>
    intro h
    cases hk : keeps zs.toArray (j + 1) with
    | true => exact List.mem_map.2 ⟨j + 1, List.mem_filter.2 ⟨List.mem_range.2 h, hk⟩, rfl⟩
    | false =>
      have he : zs.toArray[j + 1]! = zs.toArray[j]! := by
        unfold keeps at hk
        have := of_decide_eq_false hk
        simp only [Nat.add_sub_cancel] at this
        exact Decidable.byContradiction fun e => this (.inr e)
      rw [he]; exact ih (by omega)
theorem mem_compact' {zs : List Int} {x : Int} (h : x ∈ zs) : x ∈ compact zs := by
  obtain ⟨j, hj, e⟩ := List.mem_iff_getElem.1 h
  have := mem_compact j hj
  rw [show zs.toArray[j]! = x by simp [hj, e]] at this
  exact this
theorem compact_rising {zs : List Int} (h : zs.Pairwise (fun x y => x ≤ y)) : (compact zs).Pairwise (fun x y => x < y) := by
  unfold compact compactUpTo
  rw [List.pairwise_map, List.pairwise_filter]
  refine List.Pairwise.imp_of_mem ?_ List.pairwise_lt_range
  intro i j hi hj hlt _ hk
  have hj' := List.mem_range.1 hj
  have hi' := List.mem_range.1 hi
  have hs := List.pairwise_iff_getElem.1 h
  unfold keeps at hk
  have hk' := of_decide_eq_true hk
  have h2 : zs[j - 1] ≤ zs[j] := hs (j - 1) j (by omega) hj' (by omega)
  have h1 : zs[i] ≤ zs[j - 1] := by
    by_cases e : i = j - 1
    · subst e; exact Int.le_refl _
    · exact hs i (j - 1) hi' (by omega) (by omega)
  have e1 : zs.toArray[i]! = zs[i] := by simp [hi']
  have e2 : zs.toArray[j]! = zs[j] := by simp [hj']
  have e3 : zs.toArray[j - 1]! = zs[j - 1] := by simp [show j - 1 < zs.length by omega]
  rw [e2, e3] at hk'
  rw [e1, e2]
  rcases hk' with h0 | h0
  · omega
  · omega
end

/-! ### who is due -/
def dueL (nd : List Bool) (l : List Int) : List Bool := nd.mapIdx fun n b => l.contains (n : Int) && !b
def duI (nd : List Bool) (l : List Int) : List Int := rising (dueL nd l)
theorem dueL_length (nd : List Bool) (l : List Int) : (dueL nd l).length = nd.length := by simp [dueL]
theorem dueL_get (nd : List Bool) (l : List Int) (i : Nat) {b : Bool} (h : nd[i]? = some b) : (dueL nd l)[i]? = some (l.contains (i : Int) && !b) := by
  unfold dueL; rw [List.getElem?_mapIdx, h]; rfl
theorem mem_duI {nd : List Bool} {l : List Int} {x : Int} : x ∈ duI nd l ↔ ∃ n : Nat, x = (n : Int) ∧ nd[n]? = some false ∧ x ∈ l := by
  unfold duI
  rw [mem_rising]
  constructor
  · rintro ⟨n, rfl, h⟩
    cases hb : nd[n]? with
    | none => unfold dueL at h; rw [List.getElem?_mapIdx, hb] at h; cases h
    | some b =>
      rw [dueL_get nd l n hb] at h
      injection h with h
      rw [Bool.and_eq_true, List.contains_iff_mem] at h
      cases b with
      | true => simp at h
      | false => exact ⟨n, rfl, hb, h.1⟩
  · rintro ⟨n, rfl, h, hm⟩
    refine ⟨n, rfl, ?_⟩
    rw [dueL_get nd l n h, List.contains_iff_mem.2 hm]; rfl
theorem due_eq {nd : List Bool} {l : List Int} (hl : ∀ x ∈ l, ∃ n : Nat, x = (n : Int) ∧ n < nd.length) : Lib.compact ((l.filter fun x => !nd.getD x.toNat false).mergeSort fun x y => decide (x ≤ y)) = duI nd l := by
  have hs : ((l.filter fun x => !nd.getD x.toNat false).mergeSort fun x y => decide (x ≤ y)).Pairwise (fun a b => (decide (a ≤ b)) = true) := List.pairwise_mergeSort (fun a b c h1 h2 => by simp at h1 h2 ⊢; omega) (fun a b => by simp; omega) _
  refine eq_of_rising (compact_rising (hs.imp (fun h => by simpa using h))) (risingE _) (fun x => ?_)
  have hm : x ∈ ((l.filter fun x => !nd.getD x.toNat false).mergeSort fun x y => decide (x ≤ y)) ↔ x ∈ l ∧ nd.getD x.toNat false = false := by
    rw [(List.mergeSort_perm _ _).mem_iff, List.mem_filter]; simp
  change _ ↔ x ∈ duI nd l
  rw [mem_duI]
  constructor
  · intro h
    obtain ⟨h1, h2⟩ := hm.1 (compact_mem h)
    obtain ⟨n, rfl, hn⟩ := hl x h1
    refine ⟨n, rfl, ?_, h1⟩
    rw [Int.toNat_natCast, List.getD_eq_getElem?_getD, List.getElem?_eq_getElem hn] at h2
    rw [List.getElem?_eq_getElem hn]
    simpa using h2
  · rintro ⟨n, rfl, h1, h2⟩
    have h3 := hm.2 ⟨h2, by rw [Int.toNat_natCast, List.getD_eq_getElem?_getD, h1]; rfl⟩
    exact mem_compact' h3
theorem duI_length (nd : List Bool) (l : List Int) : (duI nd l).length ≤ nd.length := by
  have := rising_length (dueL nd l); rw [dueL_length] at this; exact this
theorem duI_in {nd : List Bool} {l : List Int} : ∀ x ∈ duI nd l, ∃ n : Nat, x = (n : Int) ∧ n < nd.length := fun x hx => by
  obtain ⟨n, rfl, h, -⟩ := mem_duI.1 hx
  exact ⟨n, rfl, (List.getElem?_eq_some_iff.1 h).1⟩
theorem dueL_nil (nd : List Bool) : dueL nd [] = List.replicate nd.length false := by
  apply List.ext_getElem?; intro i
  unfold dueL
  rw [List.getElem?_mapIdx, List.getElem?_replicate]
  by_cases h : i < nd.length
  · rw [List.getElem?_eq_getElem h, if_pos h]; rfl
  · rw [List.getElem?_eq_none (by omega), if_neg h]; rfl
/-- the model's marks, number by number -/
theorem dueL_snoc {nd : List Bool} {l : List Int} {k n : Nat} {b : Bool} (h : l[k]? = some (n : Int)) (hb : nd[n]? = some b) : dueL nd (l.take (k + 1)) = (dueL nd (l.take k)).set n (!b) := by
  apply List.ext_getElem?; intro i
  rw [List.getElem?_set]
  have hlt := (List.getElem?_eq_some_iff.1 hb).1
  by_cases e : n = i
  · subst e
    rw [if_pos rfl, if_pos (by rw [dueL_length]; exact hlt), dueL_get nd _ n hb, List.take_add_one, h]
    simp
  · rw [if_neg e]
    cases hi : nd[i]? with
    | none =>
      have : nd.length ≤ i := by rw [List.getElem?_eq_none_iff] at hi; exact hi
      rw [List.getElem?_eq_none (by rw [dueL_length]; exact this), List.getElem?_eq_none (by rw [dueL_length]; exact this)]
    | some c =>
      rw [dueL_get nd _ i hi, dueL_get nd _ i hi]
      congr 2
      rw [List.take_add_one, h, Bool.eq_iff_iff, List.contains_iff_mem, List.contains_iff_mem, List.mem_append]
      constructor
      · rintro (h1 | h1)
        · exact h1
        · simp at h1; omega
      · exact .inl

/-! ### who stays for them -/
def stayE (seen nd : List Bool) : List Bool := seen.mapIdx fun n b => b && !nd.getD n false
def stayEK (k : Nat) (seen nd : List Bool) : List Bool := seen.mapIdx fun n b => if n < k then b && !nd.getD n false else b
theorem stayEK_length (k : Nat) (seen nd : List Bool) : (stayEK k seen nd).length = seen.length := by simp [stayEK]
theorem stayE_length (seen nd : List Bool) : (stayE seen nd).length = seen.length := by simp [stayE]
theorem stayEK_zero (seen nd : List Bool) : stayEK 0 seen nd = seen := by
  apply List.ext_getElem?; intro i
  unfold stayEK; rw [List.getElem?_mapIdx]; cases seen[i]? <;> simp
theorem stayEK_all (seen nd : List Bool) : stayEK seen.length seen nd = stayE seen nd := by
  apply List.ext_getElem?; intro i
  unfold stayEK stayE; rw [List.getElem?_mapIdx, List.getElem?_mapIdx]
  cases h : seen[i]? with
  | none => rfl
  | some b => simp [(List.getElem?_eq_some_iff.1 h).1]
theorem stayEK_get {k : Nat} {seen nd : List Bool} {b : Bool} (h : seen[k]? = some b) : (stayEK k seen nd)[k]? = some b := by
  unfold stayEK; rw [List.getElem?_mapIdx, h]; simp
theorem stayEK_step {k : Nat} {seen nd : List Bool} {b : Bool} (h : seen[k]? = some b) : stayEK (k + 1) seen nd = (stayEK k seen nd).set k (b && !nd.getD k false) := by
  apply List.ext_getElem?; intro i
  rw [List.getElem?_set]
  have hlt := (List.getElem?_eq_some_iff.1 h).1
  by_cases e : k = i
  · subst e
    rw [if_pos rfl, if_pos (by rw [stayEK_length]; exact hlt)]
    unfold stayEK; rw [List.getElem?_mapIdx, h]; simp
  · rw [if_neg e]
    unfold stayEK
    rw [List.getElem?_mapIdx, List.getElem?_mapIdx]
    cases seen[i]? with
    | none => rfl
    | some c =>
      simp only [Option.map_some]
      by_cases hi : i < k
      · rw [if_pos (by omega), if_pos hi]
      · rw [if_neg (by omega), if_neg hi]

/-! ### the rounds; R: what a number reaches -/
def hadB (R : Int → List Bool) (left : List Int) (n : Int) : Bool := left.any fun k => (k != n) && (R k).getD n.toNat false
def nowL (R : Int → List Bool) (left : List Int) : List Int := left.filter fun n => !hadB R left n
def nextL (R : Int → List Bool) (left : List Int) : List Int := left.filter fun n => hadB R left n
def nowE (R : Int → List Bool) (left : List Int) : List Int := if nowL R left = [] then left else nowL R left
def nextE (R : Int → List Bool) (left : List Int) : List Int := if nowL R left = [] then [] else nextL R left
theorem filter_split (p : Int → Bool) : ∀ l : List Int, (l.filter p).length + (l.filter fun x => !p x).length = l.length
  | [] => rfl
  | x :: l => by
    have := filter_split p l
    cases h : p x <;> simp [h] <;> omega
theorem nextE_lt {R : Int → List Bool} {left : List Int} (h : left ≠ []) : (nextE R left).length < left.length := by
  unfold nextE
  have hpos : 0 < left.length := List.length_pos_iff.2 h
  split
  · simpa using hpos
  · rename_i hn
    have h2 := filter_split (fun n => hadB R left n) left
    have h3 : 0 < (nowL R left).length := List.length_pos_iff.2 hn
    unfold nextL
    unfold nowL at h3
    omega
def roundsI (R : Int → List Bool) (left : List Int) : List (List Int) := if h : left = [] then [] else nowE R left :: roundsI R (nextE R left)
  termination_by left.length
  decreasing_by exact nextE_lt h
theorem roundsI_nil (R : Int → List Bool) : roundsI R [] = [] := by rw [roundsI]; rfl
theorem roundsI_cons {R : Int → List Bool} {left : List Int} (h : left ≠ []) : roundsI R left = nowE R left :: roundsI R (nextE R left) := by
  rw [roundsI, dif_neg h]
/-- what is left behind a round, as the program takes it -/
theorem next_eq {R : Int → List Bool} {left : List Int} : (left.filter fun n => !(nowE R left).contains n) = nextE R left := by
  unfold nowE nextE
  split
  · rw [List.filter_eq_nil_iff]
    intro x hx
    simp [hx]
  · unfold nextL
    apply List.filter_congr
    intro x hx
    cases hh : hadB R left x with
    | true =>
      have : x ∉ nowL R left := fun h => by have := (List.mem_filter.1 h).2; rw [hh] at this; cases this
      simp [this]
    | false =>
      have : x ∈ nowL R left := List.mem_filter.2 ⟨hx, by rw [hh]; rfl⟩
      simp [this]
theorem nowE_len (R : Int → List Bool) (left : List Int) : (nowE R left).length ≤ left.length := by
  unfold nowE nowL; split
  · exact Nat.le_refl _
  · exact List.length_filter_le _ _
theorem nextE_sub (R : Int → List Bool) (left : List Int) : ∀ x ∈ nextE R left, x ∈ left := by
  unfold nextE nextL; intro x hx; split at hx
  · cases hx
  · exact (List.mem_filter.1 hx).1
theorem nowE_sub (R : Int → List Bool) (left : List Int) : ∀ x ∈ nowE R left, x ∈ left := by
  unfold nowE nowL; intro x hx; split at hx
  · exact hx
  · exact (List.mem_filter.1 hx).1
theorem roundsI_len (R : Int → List Bool) : ∀ (n : Nat) (left : List Int), left.length ≤ n → (roundsI R left).length ≤ left.length
  | 0, left, h => by
    have : left = [] := List.length_eq_zero_iff.1 (by omega)
    subst this; rw [roundsI_nil]; exact Nat.le_refl _
  | n + 1, left, h => by
    by_cases e : left = []
    · subst e; rw [roundsI_nil]; exact Nat.le_refl _
    · have h1 := nextE_lt (R := R) e
      have := roundsI_len R n (nextE R left) (by omega)
      rw [roundsI_cons e, List.length_cons]; omega

/-- what is wrong with a graph and a list -/
def endsE (has : List (List Int)) (roots l : List Int) : Int := if grErr has roots ≠ 0 then grErr has roots else if 100 < l.length then 2 else if l.all (inN has.length) = true then 0 else 3

end Go.Proofs.Ytpkccpegdpodoaa

/- owns.Doms, owns.Keeps. -/
namespace Go.Proofs.Ytpkccpegdpodoaa
open Go.RowKit

attribute [local go_sem ↓] Go.wp_at_zero Go.wp_at_succ

/-- what the rounds have told of a graph -/
structure KT (has : List (List Int)) (roots ORD d : List Int) : Prop where
  dv : DvG has roots ORD d 0
  done : ∀ m, Vn has roots m → d[m]? ≠ some (-2)
  kp : ∀ m z, Vn has roots m → (Ch d (m : Int) z ↔ Kp has roots z m)
  gf : Gf has.length (Vn has roots) (Frn has roots) (plO ORD)
theorem KT.ok {has : List (List Int)} {roots ORD d : List Int} (h : KT has roots ORD d) {m : Nat} (hm : Vn has roots m) : Ok (Vn has roots) d (m : Int) := .inr ⟨m, rfl, hm, h.done m hm⟩

open Classical in
/-- those among the first k that z keeps -/
noncomputable def kpK (has : List (List Int)) (roots : List Int) (z k : Nat) : List Int := ((List.range k).filter fun m => decide (Kp has roots z m)).map fun m : Nat => (m : Int)
open Classical in
noncomputable def kpB (has : List (List Int)) (roots : List Int) (z : Nat) : List Bool := (List.range has.length).map fun m => decide (Kp has roots z m)
open Classical in
theorem kpB_length (has : List (List Int)) (roots : List Int) (z : Nat) : (kpB has roots z).length = has.length := by simp [kpB]
open Classical in
theorem kpB_get {has : List (List Int)} {roots : List Int} {z m : Nat} {b : Bool} (h : (kpB has roots z)[m]? = some b) : b = true ↔ Kp has roots z m := by
  unfold kpB at h
  have hlt := (List.getElem?_eq_some_iff.1 h).1
  simp only [List.length_map, List.length_range] at hlt
  rw [List.getElem?_map, List.getElem?_range hlt] at h
  simp only [Option.map_some] at h
  injection h with h
  rw [← h]; exact decide_eq_true_iff
theorem kpK_zero {has : List (List Int)} {roots : List Int} {z : Nat} : kpK has roots z 0 = [] := rfl
open Classical in
theorem kpK_yes {has : List (List Int)} {roots : List Int} {z k : Nat} (h : Kp has roots z k) : kpK has roots z (k + 1) = kpK has roots z k ++ [(k : Int)] := by
  unfold kpK; rw [List.range_succ, List.filter_append]; simp [h]
open Classical in
theorem kpK_no {has : List (List Int)} {roots : List Int} {z k : Nat} (h : ¬ Kp has roots z k) : kpK has roots z (k + 1) = kpK has roots z k := by
  unfold kpK; rw [List.range_succ, List.filter_append]; simp [h]
open Classical in
theorem kpK_len (has : List (List Int)) (roots : List Int) (z k : Nat) : (kpK has roots z k).length ≤ k := by
  unfold kpK; rw [List.length_map]
  have := List.length_filter_le (fun m => decide (Kp has roots z m)) (List.range k)
  rw [List.length_range] at this; exact this
open Classical in
theorem kpK_rising {has : List (List Int)} {roots : List Int} {z : Nat} : kpK has roots z has.length = rising (kpB has roots z) := by
  refine eq_of_rising ?_ (risingE _) (fun x => ?_)
  · unfold kpK
    rw [List.pairwise_map]
    refine List.Pairwise.imp ?_ (List.Pairwise.filter _ List.pairwise_lt_range)
    intro a b h; omega
  · rw [mem_rising]
    unfold kpK
    rw [List.mem_map]
    constructor
    · rintro ⟨m, hm, rfl⟩
      obtain ⟨h1, h2⟩ := List.mem_filter.1 hm
      have hlt := List.mem_range.1 h1
      refine ⟨m, rfl, ?_⟩
      obtain ⟨b, hb⟩ : ∃ b, (kpB has roots z)[m]? = some b := ⟨_, List.getElem?_eq_getElem (by rw [kpB_length]; exact hlt)⟩
      rw [hb, (kpB_get hb).2 (of_decide_eq_true h2)]
    · rintro ⟨m, rfl, hm⟩
      have hlt := (List.getElem?_eq_some_iff.1 hm).1
      rw [kpB_length] at hlt
      exact ⟨m, List.mem_filter.2 ⟨List.mem_range.2 hlt, decide_eq_true ((kpB_get hm).1 rfl)⟩, rfl⟩

def DmPost (has : List (List Int)) (roots : List Int) (w : World) (e : Ending) (w' : World) : Prop :=
  Below w.heap.size w w' ∧ ((grErr has roots = 0 ∧ ∃ (DA : Option Addr) (dc : Nat) (ORD d : List Int), KT has roots ORD d ∧ e = .returned (.tuple #[.slice DA has.length dc, .int .i64 0]) ∧ Own w' w.heap.size 3 DA dc d) ∨
    (grErr has roots ≠ 0 ∧ e = .returned (.tuple #[.slice none 0 0, .int .i64 (grErr has roots)])))
theorem KT.of {has : List (List Int)} {roots PL ORD d : List Int} {FR : List (List Int)} (hR : Rd has roots PL ORD FR) (hd : DvG has roots ORD d 0) (hall : ∀ m, Vn has roots m → d[m]? ≠ some (-2)) (hfix : ∀ m, Vn has roots m → FixAt has roots d m) : KT has roots ORD d :=
  ⟨hd, hall, fun m z hm => hd.keeps hR.r hR.s hall (fun m b z hm hb hz x hx => hfix m hm b z hb hz x hx) hm, hR.gf⟩

set_option maxHeartbeats 1600000 in
set_option maxRecDepth 100000 in
theorem oDoms_any (B hc rc : Nat) (HA RA : Option Addr) (has : List (List Int)) (roots : List Int) (w : World) (hh : At w B HA has) (hro : At w B RA roots) (hB : B ≤ w.heap.size) (hl : has.length ≤ 9223372036854775807) (hrl : roots.length ≤ 9223372036854775807) (hrc : roots.length ≤ rc ∧ rc ≤ maxLen) :
    Calls Try.prog 45 #[.agg #[.slice HA has.length hc, .slice RA roots.length rc]] w (DmPost has roots w) := by
  obtain ⟨P, hP⟩ : ∃ P, DmPost has roots w = P := ⟨_, rfl⟩
  have HP := Lib.hid hP
  rw [hP]; clear hP
  have HH := Lib.hid (And.intro hh hro); clear hh hro
  go_enter Try.func45, Try.ntmps45
  go_wp2_with fail
  refine calls_world (fun W => Blk W w.heap.size 49 #[.slice HA has.length hc, .slice RA roots.length rc] ∧ Below w.heap.size w W ∧ w.heap.size + 1 ≤ W.heap.size) ⟨Blk.new _ _ _, (Below.refl _ _).alloc (Nat.le_refl _) _, by simp⟩ ?_
  rintro W ⟨hG, hb0, hs0⟩
  refine (wcheck_any B hc rc HA RA has roots W (HH.out.1.below (hb0.mono hB)) (HH.out.2.below (hb0.mono hB)) (by omega) hl hrl hrc).mono ?_
  rintro e w1 ⟨rfl, hb1⟩
  have hbl1 := hb0.trans (hb1.mono (by omega))
  have hs1 := hb1.size
  have hG1 := hG.fresh hb1
  have g0 := hG1.cell 0 (v := .slice HA has.length hc) rfl
  have g1 := hG1.cell 1 (v := .slice RA roots.length rc) rfl
  clear hG hG1
  obtain ⟨ge, hge⟩ : ∃ ge, grErr has roots = ge := ⟨_, rfl⟩
  rw [hge]
  by_cases h0 : ge = 0
  rotate_left
  · have hne : (ge != 0) = true := by simp [h0]
    have HE := Lib.hid (And.intro hge h0); clear hge h0
    go_wp2_with fail
    rw [← HP.out]
    exact ⟨hbl1, .inr ⟨by rw [HE.out.1]; exact HE.out.2, by rw [HE.out.1]; rfl⟩⟩
  subst h0
  obtain ⟨gl, grl, ghl, gright, gsrc⟩ := grErr_ok hge
  have HD := Lib.hid (doms_any B hc rc roots.length HA RA has roots w1 (HH.out.1.below (hbl1.mono hB)) (HH.out.2.below (hbl1.mono hB)) (by omega) gright gsrc gl rfl grl ghl)
  have HE := Lib.hid hge; clear hge gright gsrc ghl
  go_wp2_with fail
  refine HD.out.mono ?_
  rintro e w2 ⟨⟨T, PL, ORD, FR, d, rfl, hR, ⟨P1, O1, ⟨DA, dc, dl⟩, FA, fc, F, hTr, e1, e2, e3, e4⟩, hd, hall, hfix⟩, hb2⟩
  simp only at e4
  subst dl
  have hdl : d.length = has.length := hd.len
  have c5 := hTr.blk.cell 5 (v := .slice DA d.length dc) rfl
  rw [hdl] at c5
  have hTlt := hTr.lt
  have HF := Lib.hid (And.intro (KT.of hR hd hall hfix) (And.intro (hTr.rowD.base_le (show w.heap.size ≤ w1.heap.size by omega)) (hbl1.trans (hb2.mono (by omega))))); clear hR hTr hd hall hfix e1 e2 e3
  go_wp2_with fail
  rw [← HP.out]
  exact ⟨HF.out.2.2, .inl ⟨HE.out, DA, dc, ORD, d, HF.out.1, rfl, HF.out.2.1⟩⟩

end Go.Proofs.Ytpkccpegdpodoaa

/- How many each keeps, told from the last to the first. No program is named here. -/
namespace Go.Proofs.Ytpkccpegdpodoaa

open Classical in
noncomputable def cnt (N : Nat) (p : Nat → Prop) : Nat := ((List.range N).filter fun j => decide (p j)).length
section
variable {N : Nat} {p q r : Nat → Prop}
theorem cnt_zero : cnt 0 p = 0 := rfl
open Classical in
theorem cnt_succ : cnt (N + 1) p = cnt N p + if p N then 1 else 0 := by
  unfold cnt
  rw [List.range_succ, List.filter_append, List.length_append]
  by_cases h : p N <;> simp [h]
theorem cnt_congr (h : ∀ j, p j ↔ q j) : cnt N p = cnt N q := by
  have : p = q := funext fun j => propext (h j)
  rw [this]
theorem cnt_none (h : ∀ j, ¬ p j) : cnt N p = 0 := by
  induction N with
  | zero => rfl
  | succ N ih => rw [cnt_succ, ih, if_neg (h N)]
theorem cnt_add (h : ∀ j, r j ↔ p j ∨ q j) (hd : ∀ j, p j → ¬ q j) : cnt N r = cnt N p + cnt N q := by
  induction N with
  | zero => rfl
  | succ N ih =>
    rw [cnt_succ, cnt_succ, cnt_succ, ih]
    by_cases h1 : p N
    · have h2 := hd N h1
      rw [if_pos ((h N).2 (.inl h1)), if_pos h1, if_neg h2]; omega
    · by_cases h2 : q N
      · rw [if_pos ((h N).2 (.inr h2)), if_neg h1, if_pos h2]; omega
      · rw [if_neg (fun h3 => by rcases (h N).1 h3 with h4 | h4; exact h1 h4; exact h2 h4), if_neg h1, if_neg h2]; omega
theorem cnt_one {n : Nat} (hn : n < N) : cnt N (fun j => j = n) = 1 := by
  induction N with
  | zero => omega
  | succ N ih =>
    rw [cnt_succ]
    by_cases e : N = n
    · subst e
      have : cnt N (fun j => j = N) = 0 := by
        have key : ∀ M, M ≤ N → cnt M (fun j => j = N) = 0 := by
          intro M
          induction M with
          | zero => intro _; rfl
          | succ M ih2 => intro hM; rw [cnt_succ, ih2 (by omega), if_neg (by omega)]
        exact key N (Nat.le_refl _)
      rw [this, if_pos rfl]
    · rw [ih (by omega), if_neg e]
theorem cnt_le : cnt N p ≤ N := by
  induction N with
  | zero => exact Nat.le_refl _
  | succ N ih => rw [cnt_succ]; split <;> omega
end

section
variable {N : Nat} {V : Nat → Prop} {fr : Nat → Int → Prop} {pl : Nat → Nat} {SD : Nat → Nat → Prop} {d : List Int} {i : Nat}
/-- one on a chain, not its start, has a child on it -/
theorem Dv.child (h : Dv N V fr pl SD d i) {x : Int} {n : Nat} (hx : Ok V d x) (hc : Ch d x n) : x = (n : Int) ∨ ∃ c : Nat, V c ∧ d[c]? = some (n : Int) ∧ Ch d x c := by
  induction hc with
  | top => rcases hx with e | ⟨n, e, -⟩ <;> omega
  | here => exact .inl rfl
  | @up m z b h1 h2 ih =>
    right
    rcases hx with e | ⟨m', e, hv, hd⟩
    · omega
    · obtain rfl : m = m' := by omega
      rcases ih (h.ok_up h1 hv hd).1 with e2 | ⟨c, h3, h4, h5⟩
      · subst e2; exact ⟨m, hv, h1, .here⟩
      · exact ⟨c, h3, h4, .up h1 h5⟩
theorem Dv.lin_ (h : Dv N V fr pl SD d i) {x : Int} {p q : Nat} (hx : Ok V d x) (hp : Ch d x p) (hq : Ch d x q) : Ch d (p : Int) q ∨ Ch d (q : Int) p := by
  induction hp with
  | top => rcases hx with e | ⟨n, e, -⟩ <;> omega
  | here => exact .inl hq
  | @up m z b h1 h2 ih =>
    rcases hx with e | ⟨n, e, hv, hd⟩
    · omega
    · obtain rfl : m = n := by omega
      rcases hq.cases_ with e2 | ⟨b', hb', hq2⟩
      · subst e2; exact .inr (.up h1 h2)
      · rw [h1] at hb'; injection hb' with hb'; subst hb'
        exact ih (h.ok_up h1 hv hd).1 hq2

/-- who is counted at m, when those from place t on are told -/
def Sz (V : Nat → Prop) (pl : Nat → Nat) (d : List Int) (t m j : Nat) : Prop := V j ∧ ((m = j ∧ t ≤ pl m) ∨ ∃ c : Nat, V c ∧ d[c]? = some (m : Int) ∧ t ≤ pl c ∧ Ch d (j : Int) c)
theorem Sz.top_ {q : Nat} (hq : ∀ m, V m → pl m < q) {m j : Nat} : ¬ Sz V pl d q m j := by
  rintro ⟨hj, ⟨e, h1⟩ | ⟨c, hc, -, h1, -⟩⟩
  · subst e; have := hq m hj; omega
  · have := hq c hc; omega
section
variable (g : Gf N V fr pl) (h : Dv N V fr pl SD d i) (hall : ∀ m, V m → d[m]? ≠ some (-2))
theorem Dv.okv (hall : ∀ m, V m → d[m]? ≠ some (-2)) {m : Nat} (hm : V m) : Ok V d (m : Int) := .inr ⟨m, rfl, hm, hall m hm⟩
include h hall in
/-- the one that is told now: itself and what its children have -/
theorem Sz.self {t n : Nat} (hn : V n) (ht : pl n = t) : (∀ j, Sz V pl d t n j ↔ j = n ∨ Sz V pl d (t + 1) n j) ∧ (∀ j, j = n → ¬ Sz V pl d (t + 1) n j) ∧ ∀ j, Sz V pl d t n j ↔ V j ∧ Ch d (j : Int) n := by
  have hch : ∀ c, V c → d[c]? = some (n : Int) → pl n < pl c := fun c hc hd => (h.ok_up hd hc (hall c hc)).2 n rfl
  refine ⟨fun j => ?_, fun j e => ?_, fun j => ?_⟩
  · constructor
    · rintro ⟨hj, ⟨e, -⟩ | ⟨c, hc, hd, -, h2⟩⟩
      · exact .inl e.symm
      · exact .inr ⟨hj, .inr ⟨c, hc, hd, by have := hch c hc hd; omega, h2⟩⟩
    · rintro (e | ⟨hj, ⟨e, -⟩ | ⟨c, hc, hd, h1, h2⟩⟩)
      · subst e; exact ⟨hn, .inl ⟨rfl, by omega⟩⟩
      · subst e; exact ⟨hn, .inl ⟨rfl, by omega⟩⟩
      · exact ⟨hj, .inr ⟨c, hc, hd, by omega, h2⟩⟩
  · subst e
    rintro ⟨-, ⟨-, h1⟩ | ⟨c, hc, hd, -, h2⟩⟩
    · omega
    · have := (h.chain h2 (Dv.okv hall hn)).2.2 j rfl
      have := hch c hc hd
      omega
  · constructor
    · rintro ⟨hj, ⟨e, -⟩ | ⟨c, hc, hd, -, h2⟩⟩
      · subst e; exact ⟨hj, .here⟩
      · exact ⟨hj, h2.trans_ hd .here⟩
    · rintro ⟨hj, hc⟩
      rcases h.child (Dv.okv hall hj) hc with e | ⟨c, hcv, hd, h2⟩
      · exact ⟨hj, .inl ⟨by omega, by omega⟩⟩
      · exact ⟨hj, .inr ⟨c, hcv, hd, by have := hch c hcv hd; omega, h2⟩⟩
include g h hall in
/-- the one above it gets what it has -/
theorem Sz.above {t n m : Nat} (hn : V n) (ht : pl n = t) (hd : d[n]? = some (m : Int)) : (∀ j, Sz V pl d t m j ↔ Sz V pl d (t + 1) m j ∨ Sz V pl d t n j) ∧ ∀ j, Sz V pl d (t + 1) m j → ¬ Sz V pl d t n j := by
  have hmn : pl m < pl n := (h.ok_up hd hn (hall n hn)).2 m rfl
  have hself := (Sz.self h hall hn ht).2.2
  refine ⟨fun j => ?_, fun j h1 h2 => ?_⟩
  · rw [hself]
    constructor
    · rintro ⟨hj, ⟨e, h1⟩ | ⟨c, hc, hdc, h1, h2⟩⟩
      · omega
      · by_cases e : c = n
        · subst e; exact .inr ⟨hj, h2⟩
        · refine .inl ⟨hj, .inr ⟨c, hc, hdc, ?_, h2⟩⟩
          have : pl c ≠ pl n := fun e2 => e (g.inj c n hc hn e2)
          omega
    · rintro (⟨hj, ⟨e, h1⟩ | ⟨c, hc, hdc, h1, h2⟩⟩ | ⟨hj, h2⟩)
      · exact ⟨hj, .inl ⟨e, by omega⟩⟩
      · exact ⟨hj, .inr ⟨c, hc, hdc, by omega, h2⟩⟩
      · exact ⟨hj, .inr ⟨n, hn, hd, by omega, h2⟩⟩
  · obtain ⟨hj, h3⟩ := (hself j).1 h2
    rcases h1 with ⟨-, ⟨e, h4⟩ | ⟨c, hc, hdc, h4, h5⟩⟩
    · omega
    · have hne : c ≠ n := fun e => by subst e; omega
      rcases h.lin_ (Dv.okv hall hj) h5 h3 with h6 | h6
      · rcases h6.cases_ with e | ⟨b, hb, h7⟩
        · exact hne e.symm
        · rw [hdc] at hb; injection hb with hb; subst hb
          have := (h.chain h7 (h.ok_up hdc hc (hall c hc)).1).2.2 m rfl
          omega
      · rcases h6.cases_ with e | ⟨b, hb, h7⟩
        · exact hne e
        · rw [hd] at hb; injection hb with hb; subst hb
          have := (h.chain h7 (h.ok_up hd hn (hall n hn)).1).2.2 m rfl
          omega
include g in
/-- the others are as they were -/
theorem Sz.other {t n m : Nat} (hn : V n) (ht : pl n = t) (hmn : m ≠ n) (hd : d[n]? ≠ some (m : Int)) : ∀ j, Sz V pl d t m j ↔ Sz V pl d (t + 1) m j := fun j => by
  constructor
  · rintro ⟨hj, ⟨e, h1⟩ | ⟨c, hc, hdc, h1, h2⟩⟩
    · subst e
      have : pl m ≠ pl n := fun e2 => hmn (g.inj m n hj hn e2)
      exact ⟨hj, .inl ⟨rfl, by omega⟩⟩
    · have hcn : c ≠ n := fun e => by subst e; exact hd hdc
      have : pl c ≠ pl n := fun e2 => hcn (g.inj c n hc hn e2)
      exact ⟨hj, .inr ⟨c, hc, hdc, by omega, h2⟩⟩
  · rintro ⟨hj, ⟨e, h1⟩ | ⟨c, hc, hdc, h1, h2⟩⟩
    · exact ⟨hj, .inl ⟨e, by omega⟩⟩
    · exact ⟨hj, .inr ⟨c, hc, hdc, by omega, h2⟩⟩
include h hall in
theorem Sz.bottom {m j : Nat} : Sz V pl d 0 m j ↔ V j ∧ V m ∧ Ch d (j : Int) m := by
  constructor
  · rintro ⟨hj, ⟨e, -⟩ | ⟨c, hc, hdc, -, h2⟩⟩
    · subst e; exact ⟨hj, hj, .here⟩
    · have h3 := h2.trans_ hdc .here
      exact ⟨hj, (h.chain h3 (Dv.okv hall hj)).1, h3⟩
  · rintro ⟨hj, hm, hc⟩
    rcases h.child (Dv.okv hall hj) hc with e | ⟨c, hcv, hdc, h2⟩
    · exact ⟨hj, .inl ⟨by omega, Nat.zero_le _⟩⟩
    · exact ⟨hj, .inr ⟨c, hcv, hdc, Nat.zero_le _, h2⟩⟩
end
/-- the sizes, those from place t on told -/
noncomputable def szL (N : Nat) (V : Nat → Prop) (pl : Nat → Nat) (d : List Int) (t : Nat) : List Int := (List.range N).map fun m => (cnt N (Sz V pl d t m) : Int)
theorem szL_length (t : Nat) : (szL N V pl d t).length = N := by simp [szL]
theorem szL_get {t m : Nat} (hm : m < N) : (szL N V pl d t)[m]? = some (cnt N (Sz V pl d t m) : Int) := by unfold szL; rw [List.getElem?_map, List.getElem?_range hm]; rfl
theorem szL_top {q : Nat} (hq : ∀ m, V m → pl m < q) : szL N V pl d q = List.replicate N 0 := by
  apply List.ext_getElem?; intro m
  by_cases hm : m < N
  · rw [szL_get hm, List.getElem?_replicate, if_pos hm, cnt_none (fun j => Sz.top_ hq)]; rfl
  · rw [List.getElem?_eq_none (by rw [szL_length]; omega), List.getElem?_eq_none (by rw [List.length_replicate]; omega)]
theorem szL_step (g : Gf N V fr pl) (h : Dv N V fr pl SD d i) (hall : ∀ m, V m → d[m]? ≠ some (-2)) {t n : Nat} (hn : V n) (ht : pl n = t) :
    cnt N (Sz V pl d t n) = cnt N (Sz V pl d (t + 1) n) + 1 ∧ (∀ u : Int, d[n]? = some u → u < 0 → szL N V pl d t = (szL N V pl d (t + 1)).set n (cnt N (Sz V pl d t n))) ∧
      ∀ m : Nat, d[n]? = some (m : Int) → m ≠ n ∧ cnt N (Sz V pl d t m) = cnt N (Sz V pl d (t + 1) m) + cnt N (Sz V pl d t n) ∧ szL N V pl d t = ((szL N V pl d (t + 1)).set n (cnt N (Sz V pl d t n))).set m (cnt N (Sz V pl d t m)) := by
  have hnN := g.lt n hn
  have h1 : cnt N (Sz V pl d t n) = cnt N (Sz V pl d (t + 1) n) + 1 := by
    have hs := Sz.self h hall hn ht
    rw [cnt_add hs.1 hs.2.1, cnt_one hnN]; omega
  refine ⟨h1, fun u hu hneg => ?_, fun m hd => ?_⟩
  · apply List.ext_getElem?; intro k
    by_cases hk : k < N
    · rw [szL_get hk, List.getElem?_set]
      by_cases e : n = k
      · subst e; rw [if_pos rfl, if_pos (by rw [szL_length]; exact hk)]
      · rw [if_neg e, szL_get hk, cnt_congr (Sz.other g hn ht (Ne.symm e) (fun e2 => by rw [hu] at e2; injection e2 with e2; omega))]
    · rw [List.getElem?_eq_none (by rw [szL_length]; omega), List.getElem?_eq_none (by rw [List.length_set, szL_length]; omega)]
  · have hmn : m ≠ n := fun e => by subst e; have := (h.ok_up hd hn (hall m hn)).2 m rfl; omega
    have ha := Sz.above g h hall hn ht hd
    have h2 : cnt N (Sz V pl d t m) = cnt N (Sz V pl d (t + 1) m) + cnt N (Sz V pl d t n) := cnt_add ha.1 ha.2
    refine ⟨hmn, h2, ?_⟩
    have hmN : m < N := by
      rcases (h.ok_up hd hn (hall n hn)).1 with e | ⟨m', e, hv, -⟩
      · omega
      · obtain rfl : m = m' := by omega
        exact g.lt m hv
    apply List.ext_getElem?; intro k
    by_cases hk : k < N
    · rw [szL_get hk, List.getElem?_set]
      by_cases e : m = k
      · subst e; rw [if_pos rfl, if_pos (by rw [List.length_set, szL_length]; exact hk)]
      · rw [if_neg e, List.getElem?_set]
        by_cases e2 : n = k
        · subst e2; rw [if_pos rfl, if_pos (by rw [szL_length]; exact hk)]
        · rw [if_neg e2, szL_get hk, cnt_congr (Sz.other g hn ht (Ne.symm e2) (fun e3 => by rw [hd] at e3; injection e3 with e3; omega))]
    · rw [List.getElem?_eq_none (by rw [szL_length]; omega), List.getElem?_eq_none (by rw [List.length_set, List.length_set, szL_length]; omega)]
end
end Go.Proofs.Ytpkccpegdpodoaa

/- slices.Backward's iterator; owns' sizes. -/
namespace Go.Proofs.Ytpkccpegdpodoaa
open Go.RowKit Go.Shelf

attribute [local go_sem] Oper.semAt_some

theorem blk_kept {W W' : World} {row : Option Nat} {g : Nat} {t : TypeId} {cs : Array Value} (h : Blk W g t cs) (hg : W.grownBy W' row) (hr : ∀ r, row = some r → ∃ o : Obj, W.heap[r]? = some o ∧ o.isCells = false) : Blk W' g t cs := by
  refine h.grown hg (fun e => ?_)
  obtain ⟨o, h1, h2⟩ := hr g e
  unfold Blk at h
  rw [h] at h1; injection h1 with h1; subst h1; cases h2
theorem own_kept {α : Type} [Flat α] {W W' : World} {row : Option Nat} {base : Nat} {e : TypeId} {A : Option Addr} {c : Nat} {l : List α} (h : Own W base e A c l) (hg : W.grownBy W' row) (hr : ∀ r, row = some r → ∃ o : Obj, W.heap[r]? = some o ∧ o.isCells = false) : Own W' base e A c l := by
  refine h.grown hg (fun g hg' e2 => ?_)
  obtain ⟨o, h1, h2⟩ := hr g e2
  rcases h.2 with ⟨h3, -⟩ | ⟨g', cap, cur, hv, -, hh, -⟩
  · injection h3 with h3; subst h3; cases hg'
  · injection hv with hv; subst hv
    have e3 : g' = g := by injection hg'
    subst e3
    rw [hh] at h1; injection h1 with h1; subst h1; cases h2

/-- what lay below n₀ lies as it lay, and the block Bs -/
def KpB (n₀ Bs : Nat) (W W' : World) : Prop := Below n₀ W W' ∧ W'.heap[Bs]? = W.heap[Bs]?
theorem KpB.refl (n₀ Bs : Nat) (W : World) : KpB n₀ Bs W W := ⟨Below.refl _ _, rfl⟩
theorem KpB.trans {n₀ Bs : Nat} {A B C : World} (h : KpB n₀ Bs A B) (h' : KpB n₀ Bs B C) : KpB n₀ Bs A C := ⟨h.1.trans h'.1, h'.2.trans h.2⟩
theorem KpB.box {n₀ Bs : Nat} {W W' : World} {v : Value} (h : KpB n₀ Bs W W') (hv : W.cell? ⟨Bs, 0, none⟩ = some v) : W'.cell? ⟨Bs, 0, none⟩ = some v := (World.cell?_of_block h.2).trans hv
/-- a place of the order, and who stands there -/
abbrev Plc (ORD : List Int) := { p : Nat × Nat // ORD[p.1]? = some (p.2 : Int) }
def BkOk {ORD : List Int} (pre : List (Plc ORD)) : Prop := ∀ (j : Nat) (x : Plc ORD), pre[j]? = some x → x.1.1 + j + 1 = ORD.length
theorem BkOk.snoc {ORD : List Int} {pre : List (Plc ORD)} {x : Plc ORD} (h : BkOk pre) (hx : x.1.1 + pre.length + 1 = ORD.length) : BkOk (pre ++ [x]) := fun j y hy => by
  by_cases e : j < pre.length
  · rw [List.getElem?_append_left e] at hy; exact h j y hy
  · have hlt := (List.getElem?_eq_some_iff.1 hy).1
    rw [List.length_append, List.length_singleton] at hlt
    obtain rfl : j = pre.length := by omega
    simp at hy; subst hy; exact hx
theorem BkOk.back {ORD : List Int} {pre : List (Plc ORD)} {x : Plc ORD} (h : BkOk (pre ++ [x])) : BkOk pre ∧ x.1.1 + pre.length + 1 = ORD.length :=
  ⟨fun j y hy => h j y (by rw [List.getElem?_append_left (List.getElem?_eq_some_iff.1 hy).1]; exact hy), h pre.length x (by simp)⟩

set_option maxRecDepth 100000 in
set_option maxHeartbeats 2000000 in
theorem back1_in (F : Fence) (n : Nat) (hf : F.fn 195) (hro : F.round = none) (hn : 1 ≤ n) (l Bs n₀ b cap q : Nat) (ORD : List Int) (hq : ORD.length = q) (hq2 : q ≤ 200) (hnat : ∀ x ∈ ORD, ∃ k : Nat, x = (k : Int)) (hb : b < n₀) (J Jx : List (Plc ORD) → World → Prop)
    (hY : ∀ pre x W, J pre W → pre.length < q → YieldAt F (n - 1) Try.prog l #[.int .i64 (x.1.1 : Int), .int .i64 (x.1.2 : Int)] W fun e W' =>
      (e = .returned (.bool true) ∧ J (pre ++ [x]) W' ∧ KpB n₀ Bs W W') ∨ (e = .returned (.bool false) ∧ Jx (pre ++ [x]) W'))
    (W : World) (hBs : W.cell? ⟨Bs, 0, none⟩ = some (.slice (some ⟨b, 0, none⟩) q cap)) (hBl : Bs < W.heap.size) (hc : ∀ (j : Nat) (x : Int), ORD[j]? = some x → W.cell? ⟨b, j, none⟩ = some (.int .i64 x)) (h0 : J [] W) :
    CallsIn F n Try.prog 195 #[.func (.yield l) #[] #[], .pointer (some ⟨Bs, 0, none⟩)] W fun e W' => (∃ v, e = .returned v) ∧
      ((∃ ys : List (Plc ORD), (BkOk ys ∧ ys.length = q) ∧ J ys W') ∨ (∃ pre, True ∧ Jx pre W')) := by
  refine callsIn_of_wp Try.func195 rfl hf ?_ hro
  simp only [Try.ntmps195, List.size_toArray, List.length_cons, List.length_nil, Nat.reduceAdd, Nat.reduceSub, Array.replicate_succ, Array.replicate_zero, List.push_toArray, List.append_toArray, List.nil_append, List.cons_append]
  gi_wp2
  gi_loopw [3] (fun i wr => ∃ (k : Nat) (pre : List (Plc ORD)), k ≤ q ∧ i = .int .i64 ((q : Int) - 1 - (k : Int)) ∧ pre.length = k ∧ BkOk pre ∧ J pre wr ∧ KpB n₀ Bs W wr)
    (fun i _ => (intOf i + 1).toNat)
  case atStart => exact ⟨0, [], Nat.zero_le _, by simp, rfl, fun j x h => by simp at h, h0, KpB.refl _ _ _⟩
  case round =>
    obtain ⟨k, pre, hk, rfl, hpl, hok, hJs, hnx⟩ := hrel
    by_cases hlt : k < q
    · obtain ⟨t, ht⟩ : ∃ t : Nat, t + k + 1 = q := ⟨q - 1 - k, by omega⟩
      have et : (q : Int) - 1 - (k : Int) = (t : Int) := by omega
      rw [et]
      obtain ⟨v, hv⟩ : ∃ v, ORD[t]? = some v := ⟨_, List.getElem?_eq_getElem (by omega)⟩
      obtain ⟨m, rfl⟩ := hnat v (List.mem_of_getElem? hv)
      have hcx : wr.cell? ⟨b, t, none⟩ = some (.int .i64 (m : Int)) := (hnx.1.cell (p := ⟨b, t, none⟩) hb).trans (hc t _ hv)
      have hbx := hnx.box hBs
      have t0 : (0 : Int) ≤ (t : Int) := by omega
      have t1 : (t : Int) < (q : Int) := by omega
      obtain ⟨fn, tmps, assign, body, hy, hR⟩ := hY pre ⟨(t, m), hv⟩ wr hJs (by omega)
      dsimp only at hy
      have hok2 : BkOk (pre ++ [(⟨(t, m), hv⟩ : Plc ORD)]) := hok.snoc (by simp only; omega)
      gi_wp2
      refine hR.mono ?_
      rintro e W3 (⟨rfl, hJ3, hk3⟩ | ⟨rfl, hJx3⟩)
      · have hbx3 := (hnx.trans hk3).box hBs
        gi_wp2
        go_roundw
        case rel => exact ⟨k + 1, _, by omega, by congr 1; omega, by simp [hpl], hok2, hJ3, hnx.trans hk3⟩
        case measure => simp [intOf]
      · gi_wp2
        refine bodyPost_ret (results_none rfl _ _ _) rfl ?_
        exact ⟨⟨_, rfl⟩, .inr ⟨_, trivial, hJx3⟩⟩
    · obtain rfl : k = q := by omega
      have et : (k : Int) - 1 - (k : Int) = -1 := by omega
      rw [et]
      gi_wp2
      go_end0
      exact ⟨⟨_, rfl⟩, .inl ⟨pre, ⟨hok, hpl⟩, hJs⟩⟩

set_option maxRecDepth 100000 in
set_option maxHeartbeats 1000000 in
theorem back1_nil_in (F : Fence) (n : Nat) (hf : F.fn 195) (hro : F.round = none) (l Bs cap : Nat) (A : Option Addr) (ORD : List Int) (J : List (Plc ORD) → World → Prop) (W : World) (hBs : W.cell? ⟨Bs, 0, none⟩ = some (.slice A 0 cap)) (h0 : J [] W) :
    CallsIn F n Try.prog 195 #[.func (.yield l) #[] #[], .pointer (some ⟨Bs, 0, none⟩)] W fun e W' => (∃ v, e = .returned v) ∧ J [] W' := by
  refine callsIn_of_wp Try.func195 rfl hf ?_ hro
  simp only [Try.ntmps195, List.size_toArray, List.length_cons, List.length_nil, Nat.reduceAdd, Nat.reduceSub, Array.replicate_succ, Array.replicate_zero, List.push_toArray, List.append_toArray, List.nil_append, List.cons_append]
  gi_wp2
  gi_loopw [3] (fun i wr => i = .int .i64 (-1) ∧ J [] wr) (fun _ _ => 0)
  case atStart => exact ⟨rfl, h0⟩
  case round =>
    obtain ⟨rfl, hJs⟩ := hrel
    gi_wp2
    go_end0
    exact ⟨⟨_, rfl⟩, hJs⟩

set_option maxHeartbeats 1000000 in
theorem back_in (F : Fence) (n : Nat) (hf : F.fn 175) (hro : F.round = none) (a : Option Addr) (len cap : Nat) (w : World) :
    CallsIn F n Try.prog 175 #[.slice a len cap] w fun e w' => e = .returned (.func (.func 195) #[] #[.pointer (some ⟨w.heap.size, 0, none⟩)]) ∧ w' = w.alloc (.cells #[.slice a len cap] 47) := by
  refine callsIn_of_wp Try.func175 rfl hf ?_ hro
  simp only [Try.ntmps175, List.size_toArray, List.length_cons, List.length_nil, Nat.reduceAdd, Nat.reduceSub, Array.replicate_succ, Array.replicate_zero, List.push_toArray, List.append_toArray, List.nil_append, List.cons_append]
  gi_wp2
  go_ret
  exact ⟨rfl, rfl⟩

theorem back_stops (F : Fence) (n : Nat) (hf : F.fn 195) (hro : F.round = none) (hn : 1 ≤ n) (Bs n₀ cap q : Nat) (A : Option Addr) (ORD : List Int) (hq : ORD.length = q) (hq2 : q ≤ 200) (hnat : ∀ x ∈ ORD, ∃ k : Nat, x = (k : Int)) (w : World) (hBs : Bs < w.heap.size) (hBn : n₀ ≤ w.heap.size)
    (hc : w.cell? ⟨Bs, 0, none⟩ = some (.slice A q cap)) (hI : q = 0 ∨ ∃ b, A = some ⟨b, 0, none⟩ ∧ b < n₀ ∧ ∀ (j : Nat) (x : Int), ORD[j]? = some x → w.cell? ⟨b, j, none⟩ = some (.int .i64 x)) :
    SeqStopsK F n Try.prog 195 #[.pointer (some ⟨Bs, 0, none⟩)] (fun x : Plc ORD => #[Value.int .i64 (x.1.1 : Int), Value.int .i64 (x.1.2 : Int)]) (KpB n₀ Bs) (fun ys => BkOk ys ∧ ys.length = q) (fun _ => True) q w := fun l J Jx W hW _ _ hY h0 => by
  have hc' := (hW.cell (p := ⟨Bs, 0, none⟩) hBs).trans hc
  rcases hI with rfl | ⟨b, rfl, hb, hcs⟩
  · exact (back1_nil_in F n hf hro l Bs cap A ORD J W hc' h0).mono fun e W' ⟨he, hj⟩ => ⟨he, .inl ⟨[], ⟨fun j x h => by simp at h, rfl⟩, hj⟩⟩
  · exact back1_in F n hf hro hn l Bs n₀ b cap q ORD hq hq2 hnat hb J Jx hY W hc' (by have := hW.size; omega) (fun j x hx => (hW.cell (p := ⟨b, j, none⟩) (show b < w.heap.size by omega)).trans (hcs j x hx)) h0

end Go.Proofs.Ytpkccpegdpodoaa

/- A region that draws, inside a round of a range over a function: as everywhere, where no operation defers. No program is named here. -/
namespace Go.Proofs.Ytpkccpegdpodoaa
open Go.RowKit

section
variable {P : Program} {ops : Array Oper} {Q : Exit → Act → World → Prop} {md : Region.Mode} {l n : Nat}
theorem rows_in {row : String} {args : Array Value} {w : World} {R : Value → World → Prop} (h : Rows P row args w R) : RowsIn (Fence.wide.inRound l) n P row args w R := fun c cs _ =>
  let ⟨v, w', r, s⟩ := h c cs
  ⟨v, w', r, stepsIn_wide.2 s⟩
theorem upon_in {o : Oper} {a : Act} {K : Act → World → Prop} {r : Result Next} (h : o.upon P a K Q r) : o.uponIn (Fence.wide.inRound l) n P a K Q r := by
  cases r with
  | ok x w =>
    cases x with
    | value v => exact h
    | skip => exact h
    | defer d => exact h
    | enter f args => exact ⟨(fun h' => by simp [Fence.wide, Fence.inRound] at h'), CallsIn.inRound l (callsIn_wide.2 h)⟩
    | row row args => exact ⟨(fun h' => by simp [Fence.wide, Fence.inRound] at h'), rows_in h⟩
    | _ => exact h.elim
  | halt x w => cases x <;> first | exact h | exact h.elim
theorem any_in (hd : ∀ (i : Nat) (o : Oper), ops[i]? = some o → ∀ c, o.op ≠ .defer c) (hno : ¬ LetsOut Q) : ∀ (fuel : Nat) (listed : Array Bool) (a : Act) (w : World), wpAny P md ops Q fuel listed a w → wpAnyIn (Fence.wide.inRound l) n P md ops Q fuel listed a w
  | 0, _, _, _, h => h
  | fuel + 1, listed, a, w, h => by
    refine ⟨h.1, fun i hi => ?_⟩
    have h1 := h.2 i hi
    unfold wpOp at h1
    unfold wpOpIn
    cases ho : ops[i]? with
    | none => rw [ho] at h1; exact any_in hd hno fuel _ a w h1
    | some o =>
      rw [ho] at h1
      simp only at h1 ⊢
      split at h1
      · rename_i hw
        rw [if_pos hw]
        rcases h1 with h1 | ⟨-, h1⟩
        · refine Oper.wpIn_mono (fun a w hh => any_in hd hno fuel _ a w hh) ⟨fun f _ => trivial, ?_⟩
          rw [Oper.semAt_eq _ _ _ (hd i o ho)]
          exact upon_in h1
        · exact absurd h1 hno
      · rename_i hw
        rw [if_neg hw]
        exact ⟨fun f _ => trivial, any_in hd hno fuel _ _ w h1⟩
def noDefer (o : Oper) : Bool := match o.op with | .defer _ => false | _ => true
theorem noDefer_all (h : ops.all noDefer = true) : ∀ (i : Nat) (o : Oper), ops[i]? = some o → ∀ c, o.op ≠ .defer c := fun i o ho c e => by
  have h1 := Array.all_eq_true.1 h i (Array.getElem?_eq_some_iff.1 ho).1
  rw [(Array.getElem?_eq_some_iff.1 ho).2] at h1
  unfold noDefer at h1
  rw [e] at h1
  cases h1
/-- the beginning, in a round -/
theorem wp_region_held_round {S : World → Prop} {id : Nat} {a : Act} {w : World} (hd : ops.all noDefer = true) (hno : ¬ LetsOut Q) (hm : P.follows .mixedOrders = true) (hS : S w.drew)
    (h : S w.drew → wpAnyH P .any ops Q S ops.size (Array.replicate ops.size false) a w.drew) : (Code.region id ops true).wpIn (Fence.wide.inRound l) n P Q a w :=
  wpIn_region_any hm (any_in (noDefer_all hd) hno _ _ _ _ (wpAny_of_held _ _ _ _ (h hS)))
end
end Go.Proofs.Ytpkccpegdpodoaa

/- owns.sizes. -/
namespace Go.Proofs.Ytpkccpegdpodoaa
open Go.RowKit Go.Shelf

attribute [local go_sem] Oper.semAt_some

theorem own_madei (w : World) (base : Nat) (e : TypeId) (n : Nat) {g : Nat} (hg : g = w.heap.size) (hb : base ≤ w.heap.size) (hn : n ≤ maxLen) : Own (w.alloc (.cells (madeCells #[.int .i64 0] n) e)) base e (some ⟨g, 0, none⟩) n (List.replicate n (0 : Int)) := by
  subst hg
  refine ⟨flat_length _, .inr ⟨w.heap.size, n, madeCells #[.int .i64 0] n, by rw [List.length_replicate], hb, heap_alloc_new w _, by simp, hn, by simp [size_madeCells, Flat.sz], ?_⟩⟩
  rw [madeInt, repC_zero 0 0, ← repC_flat]
  simp [repC, Flat.sz]

theorem wrap64_I64 (n : Int) : I64 (wrap64 n) := by unfold wrap64 I64; omega
theorem kpb_set {n₀ Bs : Nat} (W : World) {a : Addr} (v : Value) (h1 : n₀ ≤ a.block) (h2 : Bs ≠ a.block) : KpB n₀ Bs W (W.setCell a v) := ⟨(Below.refl _ W).setCell h1 _, Below.heap_setCell W a v Bs h2⟩
theorem kpb_drew {n₀ Bs : Nat} {W W' : World} (h : KpB n₀ Bs W W') : KpB n₀ Bs W W'.drew := ⟨h.1.drew, h.2⟩
theorem i64_set {l : List Int} {n : Nat} {v : Int} (h : ∀ x ∈ l, I64 x) (hv : I64 v) : ∀ x ∈ l.set n v, I64 x := fun x hx => by
  rcases List.mem_or_eq_of_mem_set hx with h1 | h1
  · exact h x h1
  · rw [h1]; exact hv

set_option maxRecDepth 100000 in
set_option maxHeartbeats 6400000 in
theorem sizes_any (has : List (List Int)) (roots PL ORD d : List Int) (FR : List (List Int)) (hR : Rd has roots PL ORD FR) (hkt : KT has roots ORD d) (base T N : Nat) (hN : has.length = N) (hv rv : Value) (w : World) (hT : TrD w base T hv rv PL ORD FR d) :
    Calls Try.prog 120 #[.pointer (some ⟨T, 0, none⟩)] w fun e W' => (∃ (A : Option Addr) (c : Nat), e = .returned (.slice A N c) ∧ Own W' w.heap.size 3 A c (szL N (Vn has roots) (plO ORD) d 0)) ∧ Below w.heap.size w W' := by
  obtain ⟨⟨PA, pc, p0⟩, ⟨OA, oc, o0⟩, ⟨DA, dc, d0⟩, FA, fc, F, hTr, e1, e2, e3, e4⟩ := hT
  simp only at e1 e2 e3 e4
  subst p0
  subst o0
  subst d0
  obtain ⟨q, hq⟩ : ∃ q, ORD.length = q := ⟨_, rfl⟩
  have hN2 := hR.n
  rw [hN] at hN2
  have hdl : d.length = N := hkt.dv.len.trans hN
  have hol := hR.dt.ol
  rw [hq] at hol
  have hmk := Go.run_make_row' (P := Try.prog) 47 3 (.int .i64 0) 8 Try.underlying47 infoInt rfl .i64 .i64 N (by omega) (by omega)
  have c5 := hTr.blk.cell 5 (v := .slice DA d.length dc) rfl
  have c3 := hTr.blk.cell 3 (v := .slice OA ORD.length oc) rfl
  rw [hdl] at c5
  rw [hq] at c3
  have hTlt := hTr.lt
  have HX := Lib.hid (And.intro hR (And.intro hkt (And.intro hTr (And.intro hdl (And.intro hq hN))))); clear hR hkt hTr hdl hq hN e3
  have hB2 : Below w.heap.size w (((w.alloc (.cells #[.pointer (some ⟨T, 0, none⟩)] 176)).alloc (.cells (madeCells #[.int .i64 0] N) 3)).alloc (.cells #[.slice (some ⟨w.heap.size + 1, 0, none⟩) N N] 47)) := (((Below.refl _ w).alloc (Nat.le_refl _) _).alloc (by simp) _).alloc (by simp; omega) _
  have c3' := (hB2.cell (p := ⟨T, 3, none⟩) hTlt).trans c3
  refine (callsIn_wide (n := 3)).1 ?_
  refine callsIn_of_wp_marks Try.func120 rfl trivial ?_ rfl
  simp only [Try.ntmps120, List.size_toArray, List.length_cons, List.length_nil, Nat.reduceAdd, Nat.reduceSub, Array.replicate_succ, Array.replicate_zero, List.push_toArray, List.append_toArray, List.nil_append, List.cons_append]
  gi_wp2_with (refine ⟨trivial, ?_⟩; gi_at_call 175; refine (back_in Fence.wide _ trivial rfl _ _ _ _).mono ?_; rintro e w' ⟨rfl, rfl⟩)
  have F0 : Blk (((((w.alloc (.cells #[.pointer (some ⟨T, 0, none⟩)] 176)).alloc (.cells (madeCells #[.int .i64 0] N) 3)).alloc (.cells #[.slice (some ⟨w.heap.size + 1, 0, none⟩) N N] 47)).alloc (.cells #[.slice OA q oc] 47))) w.heap.size 176 #[.pointer (some ⟨T, 0, none⟩)] ∧ Own (((((w.alloc (.cells #[.pointer (some ⟨T, 0, none⟩)] 176)).alloc (.cells (madeCells #[.int .i64 0] N) 3)).alloc (.cells #[.slice (some ⟨w.heap.size + 1, 0, none⟩) N N] 47)).alloc (.cells #[.slice OA q oc] 47))) w.heap.size 3 (some ⟨w.heap.size + 1, 0, none⟩) N (List.replicate N (0 : Int)) ∧ Blk (((((w.alloc (.cells #[.pointer (some ⟨T, 0, none⟩)] 176)).alloc (.cells (madeCells #[.int .i64 0] N) 3)).alloc (.cells #[.slice (some ⟨w.heap.size + 1, 0, none⟩) N N] 47)).alloc (.cells #[.slice OA q oc] 47))) (w.heap.size + 1 + 1) 47 #[.slice (some ⟨w.heap.size + 1, 0, none⟩) N N] ∧ Blk (((((w.alloc (.cells #[.pointer (some ⟨T, 0, none⟩)] 176)).alloc (.cells (madeCells #[.int .i64 0] N) 3)).alloc (.cells #[.slice (some ⟨w.heap.size + 1, 0, none⟩) N N] 47)).alloc (.cells #[.slice OA q oc] 47))) (w.heap.size + 1 + 1 + 1) 47 #[.slice OA q oc] ∧ Below w.heap.size w (((((w.alloc (.cells #[.pointer (some ⟨T, 0, none⟩)] 176)).alloc (.cells (madeCells #[.int .i64 0] N) 3)).alloc (.cells #[.slice (some ⟨w.heap.size + 1, 0, none⟩) N N] 47)).alloc (.cells #[.slice OA q oc] 47))) ∧ ((((((w.alloc (.cells #[.pointer (some ⟨T, 0, none⟩)] 176)).alloc (.cells (madeCells #[.int .i64 0] N) 3)).alloc (.cells #[.slice (some ⟨w.heap.size + 1, 0, none⟩) N N] 47)).alloc (.cells #[.slice OA q oc] 47)))).heap.size = w.heap.size + 1 + 1 + 1 + 1 :=
    ⟨(((Blk.new w _ _).alloc _).alloc _).alloc _, ((own_madei _ _ _ _ (by simp) (by simp) (by simp only [maxLen]; omega)).alloc _).alloc _, (Blk.at_ _ _ _ (by simp)).alloc _, Blk.at_ _ _ _ (by simp), hB2.alloc (by simp; omega) _, by simp⟩
  revert F0
  generalize (((((w.alloc (.cells #[.pointer (some ⟨T, 0, none⟩)] 176)).alloc (.cells (madeCells #[.int .i64 0] N) 3)).alloc (.cells #[.slice (some ⟨w.heap.size + 1, 0, none⟩) N N] 47)).alloc (.cells #[.slice OA q oc] 47))) = W3
  rintro ⟨f1, f2, f3, f4, f5, f6⟩
  clear c3' hB2 hmk
  have hOr : q = 0 ∨ ∃ b, OA = some ⟨b, 0, none⟩ ∧ b < w.heap.size ∧ ∀ (j : Nat) (x : Int), ORD[j]? = some x → W3.cell? ⟨b, j, none⟩ = some (.int .i64 x) := by
    by_cases h0 : q = 0
    · exact .inl h0
    · obtain ⟨b, hbe, -, hb⟩ := HX.out.2.2.1.rowO.some_ (by simp only; have := HX.out.2.2.2.2.1; omega)
      simp only at hbe
      subst hbe
      exact .inr ⟨b, rfl, hb, fun j x hx => (f5.cell (p := ⟨b, j, none⟩) hb).trans (HX.out.2.2.1.rowO.cell_int hx)⟩
  have hstop := back_stops Fence.wide 2 trivial rfl (by omega) (w.heap.size + 1 + 1 + 1) w.heap.size oc q OA ORD HX.out.2.2.2.2.1 hol HX.out.1.dt.nat W3 (by omega) (by omega) (f4.cell 0 rfl) hOr
  refine wpIn_rangeFunc_ownF (F := Fence.wide) (n := 3) (ps := #[17, 18]) (w := W3) (w0 := W3) rfl (by omega) (gf := 195) (lb := #[.pointer (some ⟨w.heap.size + 1 + 1 + 1, 0, none⟩)]) rfl trivial (enters_of Try.func195 (by kernel_rfl) rfl)
    hstop KpB.trans (fun W l o o' hl h _ _ => ⟨belowK_b (w := W3) (by omega) W l o o' hl h (by assumption) (by assumption), (grownBy_putObj' W l o').block _ (by have := (Array.getElem?_eq_some_iff.1 h).1; omega) (fun e => by injection e with e; omega)⟩) (Below.refl _ _) (fun _ => rfl)
    (fun pre W => ((∃ l : List Int, Own W w.heap.size 3 (some ⟨w.heap.size + 1, 0, none⟩) N l ∧ l.length = N ∧ (∀ v ∈ l, I64 v) ∧ (BkOk pre → l = szL N (Vn has roots) (plO ORD) d (q - pre.length))) ∧ Blk W (w.heap.size + 1 + 1) 47 #[.slice (some ⟨w.heap.size + 1, 0, none⟩) N N] ∧ Blk W w.heap.size 176 #[.pointer (some ⟨T, 0, none⟩)]) ∧ Below w.heap.size w W)
    (fun _ _ _ => False)
    (OwnFrom.and (Go.Own.from (fun s A B row hs hg hr => ⟨by obtain ⟨l, h1, h2⟩ := hs.1; exact ⟨l, own_kept h1 hg hr, h2⟩, blk_kept hs.2.1 hg hr, blk_kept hs.2.2 hg hr⟩) _) (ownFrom_below (Nat.le_refl _) (by omega)))
    (fun _ _ _ _ _ hs _ _ => hs)
    ?h0 ?a1 ?assign ?body ?done ?stop
  case h0 => exact ⟨⟨⟨List.replicate N 0, f2, by simp, fun v hv => by rw [List.mem_replicate] at hv; rw [hv.2]; exact ⟨by omega, by omega⟩, fun _ => by rw [List.length_nil, Nat.sub_zero]; exact (szL_top (fun m hm => by have := HX.out.1.dt.pl_lt hm; have := HX.out.2.2.2.2.1; omega)).symm⟩, f3, f1⟩, f5⟩
  case assign =>
    intro l x W K hK
    gi_wp2
    exact hK
  case done =>
    rintro D ys W hD ⟨hok, hlen⟩ ⟨⟨⟨l, ho, hll, hli, hval⟩, hOc, hBx⟩, hB⟩ hK
    have o0 := hOc.cell 0 (v := .slice (some ⟨w.heap.size + 1, 0, none⟩) N N) rfl
    have hv := hval hok
    rw [hlen, Nat.sub_self] at hv
    subst hv
    gi_wp2
    refine ⟨by simp, .inl ⟨_, _, rfl, run_takeDeferred hK, ?_⟩⟩
    exact ⟨_, results_tmp rfl _ _ _, ⟨_, _, rfl, own_kept ho (grownBy_putObj' W D _) (fun r e => by cases e; exact ⟨_, hK, rfl⟩)⟩, hB.trans (belowK_b (w := w) (Nat.le_refl _) W D _ _ (by omega) hK rfl rfl)⟩
  case stop =>
    rintro D c pre W _ _ h _
    exact h.elim
  case body =>
    rintro l pre x W ⟨⟨⟨li, ho, hll, hli, hval⟩, hOc, hBx⟩, hB⟩ hpl
    obtain ⟨⟨t, n⟩, hx⟩ := x
    simp only at hx
    have hVn := (HX.out.1.dt.mem n).1 (List.mem_of_getElem? hx)
    have hpln := plO_of HX.out.1.dt.nd hx
    have hnN : n < N := by have := HX.out.1.gf.lt n hVn; have := HX.out.2.2.2.2.2; omega
    obtain ⟨v, hv⟩ : ∃ v, li[n]? = some v := ⟨_, List.getElem?_eq_getElem (by omega)⟩
    have hvi := hli v (List.mem_of_getElem? hv)
    have o0 := hOc.cell 0 (v := .slice (some ⟨w.heap.size + 1, 0, none⟩) N N) rfl
    have bx0 := hBx.cell 0 (v := .pointer (some ⟨T, 0, none⟩)) rfl
    have r0 := ho.cell_int hv
    have z0 := ho.frozen (g := w.heap.size + 1) rfl n
    have hTw := HX.out.2.2.1.fresh hB
    obtain ⟨gD, hgDe, -, hgDl⟩ := HX.out.2.2.1.rowD.some_ (by simp only; have := HX.out.2.2.2.1; omega)
    simp only at hgDe
    subst hgDe
    have c5w := hTw.blk.cell 5 (v := .slice (some ⟨gD, 0, none⟩) d.length dc) rfl
    rw [HX.out.2.2.2.1] at c5w
    obtain ⟨u, hu⟩ := HX.out.2.1.dv.get (m := n) (HX.out.1.gf.lt n hVn)
    have u0 := hTw.rowD.cell_int hu
    have n0 : (0 : Int) ≤ (n : Int) := by omega
    have n1 : (n : Int) < (N : Int) := by omega
    have hTne : T ≠ w.heap.size + 1 := by omega
    have hgne : gD ≠ w.heap.size + 1 := by omega
    obtain ⟨huok, hupl⟩ := HX.out.2.1.dv.ok_up hu hVn (HX.out.2.1.done n hVn)
    have hstep := szL_step HX.out.1.gf HX.out.2.1.dv HX.out.2.1.done hVn hpln
    rw [HX.out.2.2.2.2.2] at hstep
    have HB := Lib.hid (And.intro ho (And.intro hll (And.intro hli (And.intro hval (And.intro hOc (And.intro hBx (And.intro hB (And.intro hx (And.intro hVn (And.intro hpln (And.intro hv (And.intro hu hstep)))))))))))); clear ho hll hli hval hOc hBx hVn hpln hv hu hstep hTw c5 c3 f1 f2 f3 f4 f5 f6 hOr hstop
    dsimp only
    rcases huok with rfl | ⟨m, rfl, hm1, hm2⟩
    · gi_wp2
      obtain ⟨ho, hll, hli, hval, hOc, hBx, hBw, hx', hVn, hpln, hv, hu, hstep⟩ := HB.out
      refine ⟨KeepsOthers.setCell _ _ _, kpb_set W _ (by simp only; omega) (by simp only; omega), ⟨⟨li.set n (wrap64 (v + 1)), ho.set_int _ (by omega), by rw [List.length_set]; exact hll, i64_set hli (wrap64_I64 _), fun hok => ?_⟩, hOc.far (by simp only; omega) _, hBx.far (by simp only; omega) _⟩, hBw.setCell (by simp only; omega) _⟩
      obtain ⟨hok1, hok2⟩ := hok.back
      simp only at hok2
      have hqq := HX.out.2.2.2.2.1
      have e0 := hval hok1
      rw [show q - pre.length = t + 1 by omega] at e0
      rw [e0, szL_get hnN] at hv
      injection hv with hv
      have hle := cnt_le (N := N) (p := Sz (Vn has roots) (plO ORD) d (t + 1) n)
      rw [List.length_append, List.length_singleton, show q - (pre.length + 1) = t by omega, hstep.2.1 (-1) hu (by omega), hstep.1, e0, ← hv, IntWalk.wrap64_in _ (by omega)]
      simp
    · gi_wp2
      obtain ⟨ho, hll, hli, hval, hOc, hBx, hBw, hx', hVn, hpln, hv, hu, hstep⟩ := HB.out
      have hmn := (hstep.2.2 m hu).1
      have hmN : m < N := by have := HX.out.1.gf.lt m hm1; have := HX.out.2.2.2.2.2; omega
      obtain ⟨a, ha⟩ : ∃ a, li[m]? = some a := ⟨_, List.getElem?_eq_getElem (by omega)⟩
      have ho1 := ho.set_int (i := n) (wrap64 (v + 1)) (by omega)
      have hn1 : (li.set n (wrap64 (v + 1)))[n]? = some (wrap64 (v + 1)) := List.getElem?_set_self (by omega)
      have hm1' : (li.set n (wrap64 (v + 1)))[m]? = some a := by rw [List.getElem?_set_ne (Ne.symm hmn)]; exact ha
      have hV : Blk (W.setCell ⟨w.heap.size + 1, n, none⟩ (.int .i64 (wrap64 (v + 1)))) (w.heap.size + 1 + 1) 47 #[.slice (some ⟨w.heap.size + 1, 0, none⟩) N N] ∧ Blk (W.setCell ⟨w.heap.size + 1, n, none⟩ (.int .i64 (wrap64 (v + 1)))) w.heap.size 176 #[.pointer (some ⟨T, 0, none⟩)] ∧ Below w.heap.size w (W.setCell ⟨w.heap.size + 1, n, none⟩ (.int .i64 (wrap64 (v + 1)))) ∧ Own (W.setCell ⟨w.heap.size + 1, n, none⟩ (.int .i64 (wrap64 (v + 1)))) w.heap.size 3 (some ⟨w.heap.size + 1, 0, none⟩) N (li.set n (wrap64 (v + 1))) ∧ KeepsOthers W (W.setCell ⟨w.heap.size + 1, n, none⟩ (.int .i64 (wrap64 (v + 1)))) ∧ KpB w.heap.size (w.heap.size + 1 + 1 + 1) W (W.setCell ⟨w.heap.size + 1, n, none⟩ (.int .i64 (wrap64 (v + 1)))) := ⟨hOc.far (by simp only; omega) _, hBx.far (by simp only; omega) _, hBw.setCell (by simp only; omega) _, ho1, KeepsOthers.setCell _ _ _, kpb_set W _ (by simp only; omega) (by simp only; omega)⟩
      have HM := Lib.hid (And.intro hval (And.intro hll (And.intro hli (And.intro hVn (And.intro hpln (And.intro hv (And.intro hu (And.intro hstep (And.intro ha (And.intro hn1 hm1')))))))))); clear ho hll hli hval hOc hBx hBw hx' hVn hpln hv hu hstep ha hn1 hm1' ho1
      revert hV
      generalize W.setCell ⟨w.heap.size + 1, n, none⟩ (.int .i64 (wrap64 (v + 1))) = V
      rintro ⟨v1, v2, v3, v4, v5, v6⟩
      have hTv := HX.out.2.2.1.fresh v3
      clear o0 bx0 r0 z0 c5w u0 hTne hgne
      have o0 := v1.cell 0 (v := .slice (some ⟨w.heap.size + 1, 0, none⟩) N N) rfl
      have bx0 := v2.cell 0 (v := .pointer (some ⟨T, 0, none⟩)) rfl
      have rn := v4.cell_int HM.out.2.2.2.2.2.2.2.2.2.1
      have rm := v4.cell_int HM.out.2.2.2.2.2.2.2.2.2.2
      have zm := v4.frozen (g := w.heap.size + 1) rfl m
      have c5 := hTv.blk.cell 5 (v := .slice (some ⟨gD, 0, none⟩) d.length dc) rfl
      rw [HX.out.2.2.2.1] at c5
      have u0 := hTv.rowD.cell_int HM.out.2.2.2.2.2.2.1
      have m0 : (0 : Int) ≤ (m : Int) := by omega
      have m1 : (m : Int) < (N : Int) := by omega
      obtain ⟨vn, hvn⟩ : ∃ vn, wrap64 (v + 1) = vn := ⟨_, rfl⟩
      rw [hvn] at rn
      have HVV := Lib.hid (And.intro v1 (And.intro v2 (And.intro v3 (And.intro v4 (And.intro v5 (And.intro v6 hvn)))))); clear v1 v2 v3 v4 v5 v6 hvn hTv
      have rmd : V.drew.cell? ⟨w.heap.size + 1, m, none⟩ = some (.int .i64 a) := rm
      have zmd : V.drew.frozen? ⟨w.heap.size + 1, m, none⟩ = false := zm
      have q1 := ((HVV.out.1).far (p := ⟨w.heap.size + 1, m, none⟩) (by simp only; omega) (.int .i64 (IntKind.i64.wrap (a + vn))))
      have q2 := ((HVV.out.2.1).far (p := ⟨w.heap.size + 1, m, none⟩) (by simp only; omega) (.int .i64 (IntKind.i64.wrap (a + vn))))
      have q3 : Below w.heap.size w (V.setCell ⟨w.heap.size + 1, m, none⟩ (.int .i64 (IntKind.i64.wrap (a + vn)))) := HVV.out.2.2.1.setCell (by simp only; omega) _
      have qo0 := q1.cell 0 (v := .slice (some ⟨w.heap.size + 1, 0, none⟩) N N) rfl
      have qbx := q2.cell 0 (v := .pointer (some ⟨T, 0, none⟩)) rfl
      have qrn : (V.setCell ⟨w.heap.size + 1, m, none⟩ (.int .i64 (IntKind.i64.wrap (a + vn)))).cell? ⟨w.heap.size + 1, n, none⟩ = some (.int .i64 vn) := (World.cell?_setCell_other V _ _ _ (fun e => by injection e with _ e; exact hmn e)).trans rn
      have qc5 := (HX.out.2.2.1.fresh q3).blk.cell 5 (v := .slice (some ⟨gD, 0, none⟩) d.length dc) rfl
      rw [HX.out.2.2.2.1] at qc5
      have qu0 := (HX.out.2.2.1.fresh q3).rowD.cell_int HM.out.2.2.2.2.2.2.1
      have HQ := Lib.hid (And.intro q1 (And.intro q2 q3)); clear q1 q2 q3
      have hlast : BkOk (pre ++ [(⟨(t, n), hx⟩ : Plc ORD)]) → (li.set n vn).set m (IntKind.i64.wrap (a + vn)) = szL N (Vn has roots) (plO ORD) d (q - (pre ++ [(⟨(t, n), hx⟩ : Plc ORD)]).length) := fun hok => by
        obtain ⟨hval, hll, hli, hVn, hpln, hv, hu, hstep, ha, -, -⟩ := HM.out
        obtain ⟨hok1, hok2⟩ := hok.back
        simp only at hok2
        have hqq := HX.out.2.2.2.2.1
        have e0 := hval hok1
        rw [show q - pre.length = t + 1 by omega] at e0
        rw [e0, szL_get hnN] at hv
        rw [e0, szL_get hmN] at ha
        injection hv with hv
        injection ha with ha
        have hle := cnt_le (N := N) (p := Sz (Vn has roots) (plO ORD) d (t + 1) n)
        have hle2 := cnt_le (N := N) (p := Sz (Vn has roots) (plO ORD) d (t + 1) m)
        obtain ⟨-, s1, s2⟩ := hstep.2.2 m hu
        have hvn2 : vn = (cnt N (Sz (Vn has roots) (plO ORD) d t n) : Int) := by rw [← HVV.out.2.2.2.2.2.2, ← hv, IntWalk.wrap64_in _ (by omega), hstep.1]; simp
        have hs1 := hstep.1
        rw [List.length_append, List.length_singleton, show q - (pre.length + 1) = t by omega, s2, e0, hvn2, ← ha, IntWalk.i64_in _ (by omega), s1]
        simp
      have HLAST := Lib.hid hlast; clear hlast
      refine wp_region_held_round (S := (fun w' => w'.cell? ⟨w.heap.size + 1 + 1, 0, none⟩ = some (.slice (some ⟨w.heap.size + 1, 0, none⟩) N N) ∧ w'.cell? ⟨w.heap.size, 0, none⟩ = some (.pointer (some ⟨T, 0, none⟩)) ∧ w'.cell? ⟨w.heap.size + 1, n, none⟩ = some (.int .i64 vn) ∧ w'.cell? ⟨T, 5, none⟩ = some (.slice (some ⟨gD, 0, none⟩) N dc) ∧ w'.cell? ⟨gD, n, none⟩ = some (.int .i64 (m : Int)))) (by kernel_rfl) (by rintro ⟨_, _, hlo⟩; exact hlo) (by kernel_rfl) ?_ (fun hHeld0 => ?_)
      · first | trivial | ((try dsimp only); (first | exact ⟨o0, bx0, rn, c5, u0⟩ | exact ⟨qo0, qbx, qrn, qc5, qu0⟩))
      refine held_take (v := ?_) 0 rfl (by kernel_rfl) (by kernel_rfl) (by kernel_rfl) (fun _ _ _ h => h) (by rfl) ?_ (by assumption) ?_
      rotate_left
      · (intro w hSw; (try dsimp only at hSw); go_simp; try with_reducible rfl)
      try simp only [Act.put, List.setIfInBounds_toArray, List.set_cons_zero, List.set_cons_succ]
      refine held_take (v := ?_) 1 rfl (by kernel_rfl) (by kernel_rfl) (by kernel_rfl) (fun _ _ _ h => h) (by rfl) ?_ (by assumption) ?_
      rotate_left
      · (intro w hSw; (try dsimp only at hSw); go_simp; try with_reducible rfl)
      try simp only [Act.put, List.setIfInBounds_toArray, List.set_cons_zero, List.set_cons_succ]
      refine held_take (v := ?_) 2 rfl (by kernel_rfl) (by kernel_rfl) (by kernel_rfl) (fun _ _ _ h => h) (by rfl) ?_ (by assumption) ?_
      rotate_left
      · (intro w hSw; (try dsimp only at hSw); go_simp; try with_reducible rfl)
      try simp only [Act.put, List.setIfInBounds_toArray, List.set_cons_zero, List.set_cons_succ]
      refine held_take (v := ?_) 3 rfl (by kernel_rfl) (by kernel_rfl) (by kernel_rfl) (fun _ _ _ h => h) (by rfl) ?_ (by assumption) ?_
      rotate_left
      · (intro w hSw; (try dsimp only at hSw); go_simp; try with_reducible rfl)
      try simp only [Act.put, List.setIfInBounds_toArray, List.set_cons_zero, List.set_cons_succ]
      refine held_take (v := ?_) 4 rfl (by kernel_rfl) (by kernel_rfl) (by kernel_rfl) (fun _ _ _ h => h) (by rfl) ?_ (by assumption) ?_
      rotate_left
      · (intro w hSw; (try dsimp only at hSw); go_simp; try with_reducible rfl)
      try simp only [Act.put, List.setIfInBounds_toArray, List.set_cons_zero, List.set_cons_succ]
      refine held_take (v := ?_) 5 rfl (by kernel_rfl) (by kernel_rfl) (by kernel_rfl) (fun _ _ _ h => h) (by rfl) ?_ (by assumption) ?_
      rotate_left
      · (intro w hSw; (try dsimp only at hSw); go_simp; try with_reducible rfl)
      try simp only [Act.put, List.setIfInBounds_toArray, List.set_cons_zero, List.set_cons_succ]
      refine held_take (v := ?_) 6 rfl (by kernel_rfl) (by kernel_rfl) (by kernel_rfl) (fun _ _ _ h => h) (by rfl) ?_ (by assumption) ?_
      rotate_left
      · (intro w hSw; (try dsimp only at hSw); go_simp; try with_reducible rfl)
      try simp only [Act.put, List.setIfInBounds_toArray, List.set_cons_zero, List.set_cons_succ]
      refine held_take (v := ?_) 7 rfl (by kernel_rfl) (by kernel_rfl) (by kernel_rfl) (fun _ _ _ h => h) (by rfl) ?_ (by assumption) ?_
      rotate_left
      · (intro w hSw; (try dsimp only at hSw); go_simp; try with_reducible rfl)
      try simp only [Act.put, List.setIfInBounds_toArray, List.set_cons_zero, List.set_cons_succ]
      refine held_take (v := ?_) 8 rfl (by kernel_rfl) (by kernel_rfl) (by kernel_rfl) (fun _ _ _ h => h) (by rfl) ?_ (by assumption) ?_
      rotate_left
      · (intro w hSw; (try dsimp only at hSw); go_simp; try with_reducible rfl)
      try simp only [Act.put, List.setIfInBounds_toArray, List.set_cons_zero, List.set_cons_succ]
      refine held_take (v := ?_) 10 rfl (by kernel_rfl) (by kernel_rfl) (by kernel_rfl) (fun _ _ _ h => h) (by rfl) ?_ (by assumption) ?_
      rotate_left
      · (intro w hSw; (try dsimp only at hSw); go_simp; try with_reducible rfl)
      try simp only [Act.put, List.setIfInBounds_toArray, List.set_cons_zero, List.set_cons_succ]
      refine held_take (v := ?_) 11 rfl (by kernel_rfl) (by kernel_rfl) (by kernel_rfl) (fun _ _ _ h => h) (by rfl) ?_ (by assumption) ?_
      rotate_left
      · (intro w hSw; (try dsimp only at hSw); go_simp; try with_reducible rfl)
      try simp only [Act.put, List.setIfInBounds_toArray, List.set_cons_zero, List.set_cons_succ]
      refine held_take (v := ?_) 12 rfl (by kernel_rfl) (by kernel_rfl) (by kernel_rfl) (fun _ _ _ h => h) (by rfl) ?_ (by assumption) ?_
      rotate_left
      · (intro w hSw; (try dsimp only at hSw); go_simp; try with_reducible rfl)
      try simp only [Act.put, List.setIfInBounds_toArray, List.set_cons_zero, List.set_cons_succ]
      refine held_take (v := ?_) 13 rfl (by kernel_rfl) (by kernel_rfl) (by kernel_rfl) (fun _ _ _ h => h) (by rfl) ?_ (by assumption) ?_
      rotate_left
      · (intro w hSw; (try dsimp only at hSw); go_simp; try with_reducible rfl)
      try simp only [Act.put, List.setIfInBounds_toArray, List.set_cons_zero, List.set_cons_succ]
      refine held_call 9 (by kernel_rfl) rfl (fun K hK => ?_)
      go_simp
      refine hK.out _ _ ?_ (fun hHeld1 => ?_)
      · first | trivial | ((try dsimp only); (first | exact ⟨o0, bx0, rn, c5, u0⟩ | exact ⟨qo0, qbx, qrn, qc5, qu0⟩))
      clear hK K hHeld0
      try simp only [Act.put, List.setIfInBounds_toArray, List.set_cons_zero, List.set_cons_succ]
      refine held_take (v := ?_) 14 rfl (by kernel_rfl) (by kernel_rfl) (by kernel_rfl) (fun _ _ _ h => h) (by rfl) ?_ (by assumption) ?_
      rotate_left
      · (intro w hSw; (try dsimp only at hSw); go_simp; try with_reducible rfl)
      try simp only [Act.put, List.setIfInBounds_toArray, List.set_cons_zero, List.set_cons_succ]
      refine held_take (v := ?_) 15 rfl (by kernel_rfl) (by kernel_rfl) (by kernel_rfl) (fun _ _ _ h => h) (by rfl) ?_ (by assumption) ?_
      rotate_left
      · (intro w hSw; (try dsimp only at hSw); go_simp; try with_reducible rfl)
      try simp only [Act.put, List.setIfInBounds_toArray, List.set_cons_zero, List.set_cons_succ]
      refine held_call 16 (by kernel_rfl) rfl (fun K hK => ?_)
      go_simp
      refine hK.out _ _ ?_ (fun hHeld2 => ?_)
      · first | trivial | ((try dsimp only); (first | exact ⟨o0, bx0, rn, c5, u0⟩ | exact ⟨qo0, qbx, qrn, qc5, qu0⟩))
      clear hK K hHeld1
      try simp only [Act.put, List.setIfInBounds_toArray, List.set_cons_zero, List.set_cons_succ]
      refine wpAnyH_done (by kernel_rfl) ?_ _
      refine ⟨HVV.out.2.2.2.2.1.trans ((KeepsOthers.setCell V _ _).trans (KeepsOthers.drew _)), HVV.out.2.2.2.2.2.1.trans (kpb_drew (kpb_set V (a := ⟨w.heap.size + 1, m, none⟩) _ (by simp only; omega) (by simp only; omega))), ⟨⟨(li.set n vn).set m (IntKind.i64.wrap (a + vn)), ?_, ?_, ?_, fun hok => ?_⟩, HQ.out.1, HQ.out.2.1⟩, HQ.out.2.2.drew⟩
      · have h1 := HVV.out.2.2.2.1
        rw [HVV.out.2.2.2.2.2.2] at h1
        exact h1.set_int _ (by rw [List.length_set]; have := HM.out.2.1; omega)
      · rw [List.length_set, List.length_set]; exact HM.out.2.1
      · refine i64_set (i64_set HM.out.2.2.1 ?_) ?_
        · rw [← HVV.out.2.2.2.2.2.2]; exact wrap64_I64 _
        · rw [IntWalk.i64_left]; exact wrap64_I64 _
      · exact HLAST.out hok

end Go.Proofs.Ytpkccpegdpodoaa

/- The reference's From: what is reached, round by round. -/
namespace Go.Proofs.Ytpkccpegdpodoaa
open Go.RowKit

theorem ret_slice {A : Option Addr} {n m c : Nat} (h : n = m) : Ending.returned (.slice A n c) = .returned (.slice A m c) := by rw [h]
theorem egSee : ∀ args w, (callFunc 108 args).run Try.prog w = .ok (.enter 108 args) w := fun _ _ => by kernel_rfl

/-- what a round keeps in the middle of it -/
def MidSt (has : List (List Int)) (l : List Int) (pairs : List (Int × Int)) (B : Nat) (s0 : List Bool) (S : World → List Bool → Bool → Prop) (i j q : Nat) (w : World) (s : List Bool) (m : Bool) : Prop :=
  S w s m ∧ RInv has l pairs s0 s m ∧ EClosed has s0 s i j ∧ PClosed pairs s0 s q
/-- the state of a round: the graph, what was seen, whether there is more -/
def SeeSt (w : World) (base G V M gS c : Nat) (hv rv : Value) (s : List Bool) (m : Bool) : Prop :=
  Blk w G 49 #[hv, rv] ∧ Blk w V 60 #[.slice (some ⟨gS, 0, none⟩) s.length c] ∧ Own w base 4 (some ⟨gS, 0, none⟩) c s ∧ Blk w M 4 #[.bool m] ∧ gS ≠ M ∧ base ≤ M ∧ base ≤ gS

theorem SeeSt.alloc {w : World} {base G V M gS c : Nat} {hv rv : Value} {s : List Bool} {m : Bool} (h : SeeSt w base G V M gS c hv rv s m) (o : Obj) : SeeSt (w.alloc o) base G V M gS c hv rv s m :=
  ⟨h.1.alloc _, h.2.1.alloc _, h.2.2.1.alloc _, h.2.2.2.1.alloc _, h.2.2.2.2⟩
theorem SeeSt.seen {w : World} {base G V M gS c : Nat} {hv rv : Value} {s : List Bool} {m m' : Bool} (h : SeeSt w base G V M gS c hv rv s m) {k : Nat} (hk : k < s.length) :
    SeeSt ((w.setCell ⟨M, 0, none⟩ (.bool m')).setCell ⟨gS, k, none⟩ (.bool true)) base G V M gS c hv rv (s.set k true) m' := by
  obtain ⟨h1, h2, h3, h4, h5, h6, h7⟩ := h
  have a1 : G ≠ M := fun e => by subst e; unfold Blk at h1 h4; rw [h1] at h4; injection h4 with h4; injection h4 with _ h4 _; exact absurd h4 (by decide)
  have a2 : V ≠ M := fun e => by subst e; unfold Blk at h2 h4; rw [h2] at h4; injection h4 with h4; injection h4 with _ h4 _; exact absurd h4 (by decide)
  have a3 : rowOf (some (⟨gS, 0, none⟩ : Addr)) ≠ some G := own_ne_ty h3 h1 (by decide)
  have a4 : rowOf (some (⟨gS, 0, none⟩ : Addr)) ≠ some V := own_ne_ty h3 h2 (by decide)
  have a3' : G ≠ gS := fun e => a3 (by rw [e]; rfl)
  have a4' : V ≠ gS := fun e => a4 (by rw [e]; rfl)
  refine ⟨(h1.far a1 _).far a3' _, ?_, (h3.setCell _ _ (fun e => h5 (by injection e))).set_bool true hk, ((h4.set_ 0 _).far (Ne.symm h5) _), h5, h6, h7⟩
  rw [List.length_set]
  exact (h2.far a2 _).far a4' _

theorem SeeSt.ne_ {w : World} {base G V M gS c : Nat} {hv rv : Value} {s : List Bool} {m : Bool} (h : SeeSt w base G V M gS c hv rv s m) : G ≠ M := by
  obtain ⟨h1, h2, h3, h4, h5, h6, h7⟩ := h
  exact fun e => by subst e; unfold Blk at h1 h4; rw [h1] at h4; injection h4 with h4; injection h4 with _ h4 _; exact absurd h4 (by decide)

theorem see_any (base G V M gS c k : Nat) (hv rv : Value) (s : List Bool) (m : Bool) (w : World) (h : SeeSt w base G V M gS c hv rv s m) (hk : k < s.length) :
    Calls Try.prog 108 #[.int .i64 k, .pointer (some ⟨M, 0, none⟩), .pointer (some ⟨V, 0, none⟩)] w fun e w' => e = .returned (.tuple #[]) ∧ SeeSt w' base G V M gS c hv rv (s.set k true) (m || !(s.getD k false)) ∧ Below base w w' ∧ w'.heap.size = w.heap.size := by
  obtain ⟨b, hb⟩ : ∃ b, s[k]? = some b := ⟨_, List.getElem?_eq_getElem hk⟩
  have hgd : s.getD k false = b := by rw [List.getD_eq_getElem?_getD, hb]; rfl
  rw [hgd]
  have c0 := h.2.2.2.1.cell 0 (v := .bool m) rfl
  have z0 := h.2.2.2.1.frozen 0
  have c1 := h.2.1.cell 0 (v := .slice (some ⟨gS, 0, none⟩) s.length c) rfl
  have c2 := h.2.2.1.cell_bool hb
  have z2 := h.2.2.1.frozen (g := gS) rfl k
  have hne := h.2.2.2.2.1
  have hVM : V ≠ M := fun e => by
    have h2 := h.2.1; have h4 := h.2.2.2.1; subst e; unfold Blk at h2 h4; rw [h2] at h4; injection h4 with h4; injection h4 with _ h4 _; exact absurd h4 (by decide)
  have k0 : (0 : Int) ≤ (k : Int) := by omega
  have k1 : (k : Int) < (s.length : Int) := by omega
  have HS := Lib.hid (fun m' => h.seen (m' := m') hk)
  have hb1 := h.2.2.2.2.2.1
  have hb2 := h.2.2.2.2.2.2
  clear hb hgd h
  cases m with
  | true =>
    go_enter Try.func108, Try.ntmps108
    go_wp2
    go_end0
    exact ⟨rfl, HS.out true, ((Below.refl _ _).setCell hb1 _).setCell hb2 _, by simp [World.setCell]⟩
  | false =>
    cases b with
    | true =>
      go_enter Try.func108, Try.ntmps108
      go_wp2
      go_end0
      exact ⟨rfl, HS.out false, ((Below.refl _ _).setCell hb1 _).setCell hb2 _, by simp [World.setCell]⟩
    | false =>
      go_enter Try.func108, Try.ntmps108
      go_wp2
      go_end0
      exact ⟨rfl, HS.out true, ((Below.refl _ _).setCell hb1 _).setCell hb2 _, by simp [World.setCell]⟩

theorem SeeSt.setm {w : World} {base G V M gS c : Nat} {hv rv : Value} {s : List Bool} {m : Bool} (h : SeeSt w base G V M gS c hv rv s m) (m' : Bool) : SeeSt (w.setCell ⟨M, 0, none⟩ (.bool m')) base G V M gS c hv rv s m' := by
  obtain ⟨h1, h2, h3, h4, h5, h6, h7⟩ := h
  have a1 : G ≠ M := fun e => by subst e; unfold Blk at h1 h4; rw [h1] at h4; injection h4 with h4; injection h4 with _ h4 _; exact absurd h4 (by decide)
  have a2 : V ≠ M := fun e => by subst e; unfold Blk at h2 h4; rw [h2] at h4; injection h4 with h4; injection h4 with _ h4 _; exact absurd h4 (by decide)
  exact ⟨h1.far a1 _, h2.far a2 _, h3.setCell _ _ (fun e => h5 (by injection e)), h4.set_ 0 _, h5, h6, h7⟩
theorem SeeSt.newm {w : World} {base G V M gS c : Nat} {hv rv : Value} {s : List Bool} {m : Bool} (h : SeeSt w base G V M gS c hv rv s m) (m' : Bool) : SeeSt (w.alloc (.cells #[.bool m'] 4)) base G V w.heap.size gS c hv rv s m' := by
  obtain ⟨h1, h2, h3, h4, h5, h6, h7⟩ := h
  have := (h3.lt gS rfl).2
  exact ⟨h1.alloc _, h2.alloc _, h3.alloc _, Blk.new _ _ _, by omega, by omega, h7⟩

set_option maxHeartbeats 3200000 in
set_option maxRecDepth 100000 in
theorem rfrom_any (B hc rc lc pc rn : Nat) (HA RA LA PA : Option Addr) (has : List (List Int)) (l : List Int) (pairs : List (Int × Int)) (w : World) (hh : At w B HA has) (hl : At w B LA l) (hp : At w B PA pairs) (hB : B ≤ w.heap.size)
    (hright : Right has) (hsrc : RightL has.length l) (hpr : RightP has.length pairs) (hlen : has.length ≤ 100) (hll : l.length ≤ 1000) (hpl : pairs.length ≤ 1000) (hhl : ∀ l ∈ has, l.length ≤ 10) :
    Calls Try.prog 33 #[.agg #[.slice HA has.length hc, .slice RA rn rc], .slice LA l.length lc, .slice PA pairs.length pc] w fun e w' => ∃ S c, e = .returned (.slice S has.length c) ∧ Own w' w.heap.size 4 S c (fromL has l pairs) ∧ Below w.heap.size w w' := by
  have hmk := Go.run_make_row' (P := Try.prog) 60 4 (.bool false) 1 Try.underlying60 infoBool rfl .i64 .i64 has.length (by omega) (by omega)
  have HH := Lib.hid (And.intro hh (And.intro hl (And.intro hp (And.intro hright (And.intro hsrc (And.intro hpr hhl)))))); clear hh hl hp hright hsrc hpr hhl
  go_enter Try.func33, Try.ntmps33
  go_wp2_with fail
  refine wp_world (fun W => Blk W w.heap.size 49 #[.slice HA has.length hc, .slice RA rn rc] ∧ Blk W (w.heap.size + 1 + 1) 60 #[.slice (some ⟨w.heap.size + 1, 0, none⟩) has.length has.length] ∧ Own W w.heap.size 4 (some ⟨w.heap.size + 1, 0, none⟩) has.length (List.replicate has.length false) ∧ Below w.heap.size w W ∧ w.heap.size + 3 ≤ W.heap.size) ⟨?_, ?_, ?_, ?_, ?_⟩ ?_
  · exact ((Blk.new _ _ _).alloc _).alloc _
  · exact Blk.at_ ((w.alloc _).alloc _) _ _ (by simp)
  · have := own_made (w.alloc (.cells #[.slice HA has.length hc, .slice RA rn rc] 49)) w.heap.size 4 has.length (by simp) (by simp only [maxLen]; omega)
    simp only [World.size_alloc] at this
    exact this.alloc _
  · exact (((Below.refl _ _).alloc (Nat.le_refl _) _).alloc (by simp) _).alloc (by simp; omega) _
  · simp
  rintro W ⟨hG, hV, hS, hb0, hs0⟩
  clear hmk
  go_loopg [24] (l.length) (fun gk iv wr => ∃ (k : Nat) (s : List Bool), k ≤ l.length ∧ gk = l.length - k ∧ iv = .int .i64 k ∧ s.length = has.length ∧ Hid ((∀ n : Nat, s[n]? = some true → (n : Int) ∈ l) ∧ (∀ n : Nat, (n : Int) ∈ l.take k → s[n]? = some true) ∧ Blk wr w.heap.size 49 #[.slice HA has.length hc, .slice RA rn rc] ∧ Blk wr (w.heap.size + 1 + 1) 60 #[.slice (some ⟨w.heap.size + 1, 0, none⟩) has.length has.length] ∧ Own wr w.heap.size 4 (some ⟨w.heap.size + 1, 0, none⟩) has.length s) ∧ Below w.heap.size w wr ∧ w.heap.size + 3 ≤ wr.heap.size)
  case atStart => exact ⟨0, List.replicate has.length false, Nat.zero_le _, rfl, rfl, by simp, ⟨fun n hn => by rw [List.getElem?_replicate] at hn; split at hn <;> simp at hn, fun n hn => by simp at hn, hG, hV, hS⟩, hb0, hs0⟩
  case round =>
    obtain ⟨k, s, hk, rfl, rfl, hsl, hkeep, hbl, hsz⟩ := hrel
    clear hG hV hS hb0 hs0
    obtain ⟨k1, k2, k3, k4, k5⟩ := hkeep.out
    by_cases hlt : k < l.length
    · obtain ⟨b, o, x, rfl, hb, hx, hok, h0⟩ := (HH.out.2.1.below (hbl.mono hB)).int_ hlt
      obtain ⟨n, rfl, hn⟩ := HH.out.2.2.2.2.1 x (List.mem_of_getElem? hx)
      obtain ⟨u, hu⟩ : ∃ v, s[n]? = some v := ⟨_, List.getElem?_eq_getElem (by omega)⟩
      have c0 := k4.cell 0 (v := .slice (some ⟨w.heap.size + 1, 0, none⟩) has.length has.length) rfl
      have c1 := k5.cell_bool hu
      have z1 := k5.frozen (g := w.heap.size + 1) rfl n
      have n0 : (0 : Int) ≤ (n : Int) := by omega
      have n1 : (n : Int) < (has.length : Int) := by omega
      have hns : n < s.length := by omega
      have HX := Lib.hid (And.intro hx (And.intro (k3.far (p := ⟨w.heap.size + 1, n, none⟩) (by simp) (.bool true)) (And.intro (k4.far (p := ⟨w.heap.size + 1, n, none⟩) (by simp) (.bool true)) (And.intro (k5.set_bool true hns) (And.intro k1 k2)))))
      clear hx hu hkeep k1 k2 k3 k4 k5
      go_wp2_with fail
      go_roundg (l.length - (k + 1))
      case measure => omega
      case rel =>
        obtain ⟨f1, f2, f3, f4, f5, f6⟩ := HX.out
        refine ⟨k + 1, s.set n true, by omega, rfl, by go_num, by simp [hsl], ⟨fun j hj => ?_, fun j hj => ?_, f2, f3, f4⟩, hbl.setCell (by simp) _, by simp [World.setCell]; omega⟩
        · rcases (set_true_get hns).1 hj with rfl | hj
          · exact List.mem_of_getElem? f1
          · exact f5 j hj
        · rw [List.take_add_one, f1] at hj
          rcases List.mem_append.1 hj with hj | hj
          · exact (set_true_get hns).2 (.inr (f6 j hj))
          · simp at hj
            exact (set_true_get hns).2 (.inl (by omega))
    · rw [List.take_of_length_le (by omega)] at k2
      have hge := (k5.lt (w.heap.size + 1) rfl).2
      have HS0 := Lib.hid (And.intro k1 (And.intro k2 (And.intro k3 (And.intro k4 k5)))); clear k1 k2 k3 k4 k5 hkeep
      go_wp2_with fail
      go_loopg [10] (unseen s + 1) (fun gk mv wr => ∃ (M : Nat) (s : List Bool) (m : Bool), mv = .pointer (some ⟨M, 0, none⟩) ∧ gk = (if m = true then unseen s + 1 else 0) ∧ s.length = has.length ∧ Hid (SeeSt wr w.heap.size w.heap.size (w.heap.size + 1 + 1) M (w.heap.size + 1) has.length (.slice HA has.length hc) (.slice RA rn rc) s m ∧ (∀ n, s[n]? = some true → RT has l pairs n) ∧ (∀ n : Nat, (n : Int) ∈ l → s[n]? = some true) ∧ (m = false → EClosed has s s has.length 0 ∧ PClosed pairs s s pairs.length)) ∧ Below w.heap.size w wr)
      case atStart =>
        obtain ⟨f1, f2, f3, f4, f5⟩ := HS0.out
        exact ⟨_, s, true, rfl, by simp, hsl, ⟨⟨f3.alloc _, by rw [hsl]; exact f4.alloc _, f5.alloc _, Blk.new _ _ _, by omega, by omega, by omega⟩, fun n hn => .root (f1 n hn), f2, fun h => by cases h⟩, hbl.alloc (by omega) _⟩
      case round =>
        obtain ⟨M, s, m, rfl, rfl, hsl, hkeep, hbl⟩ := hrel
        have hsz := hbl.size
        have m0 := hkeep.out.1.2.2.2.1.cell 0 (v := .bool m) rfl
        have mz := hkeep.out.1.2.2.2.1.frozen 0
        have hM := hkeep.out.1.2.2.2.2.2.1
        cases m with
        | false =>
          have hfin := RInv.fin hsl hkeep.out.2.1 hkeep.out.2.2.1 (hkeep.out.2.2.2 rfl).1 (hkeep.out.2.2.2 rfl).2
          have v0 := hkeep.out.1.2.1.cell 0 (v := .slice (some ⟨w.heap.size + 1, 0, none⟩) s.length has.length) rfl
          have HF := Lib.hid (And.intro hfin hkeep.out.1.2.2.1); clear hfin hkeep
          go_wp2_with fail
          go_ret
          exact ⟨some ⟨w.heap.size + 1, 0, none⟩, has.length, rfl, by rw [← HF.out.1]; exact HF.out.2, hbl⟩
        | true =>
          have hst := hkeep.out.1.setm false
          have g0 := hst.1.cell 0 (v := .slice HA has.length hc) rfl
          have HK := Lib.hid (And.intro hst hkeep.out.2); clear hst hkeep
          have hblm := hbl.setCell (p := ⟨M, 0, none⟩) hM (.bool false)
          have HS1 := Lib.hid HK.out.1.1; 
          have hGM := HK.out.1.ne_
          go_wp2_with fail
          clear g0 m0 mz
          go_loopg [37] (has.length) (fun gi iv wi => ∃ (i : Nat) (s' : List Bool) (m' : Bool), i ≤ has.length ∧ gi = has.length - i ∧ iv = .int .i64 i ∧ Hid (SeeSt wi w.heap.size w.heap.size (w.heap.size + 1 + 1) M (w.heap.size + 1) has.length (.slice HA has.length hc) (.slice RA rn rc) s' m' ∧ RInv has l pairs s s' m' ∧ EClosed has s s' i 0) ∧ Below w.heap.size w wi)
          case atStart => exact ⟨0, s, false, Nat.zero_le _, rfl, rfl, ⟨HK.out.1, ⟨hsl, hsl, HK.out.2.1, Grows.refl _, fun _ => rfl, by simp⟩, EClosed.zero _ _ _⟩, hblm⟩
          case round =>
            obtain ⟨i, s1, m1, hi, rfl, rfl, hkeep, hbl3⟩ := hrel
            have hsz3 := hbl3.size
            have hs1l := hkeep.out.2.1.len
            by_cases hlt3 : i < has.length
            · obtain ⟨b, o, li, A', c', rfl, hb, hli, hcell, hat', hlc, hmx⟩ := (HH.out.1.below (hbl3.mono hB)).slice_ hlt3
              have hll10 := HH.out.2.2.2.2.2.2 li (List.mem_of_getElem? hli)
              have HLI := Lib.hid (And.intro hli hat'); clear hli hat'
              obtain ⟨wo, rfl⟩ : ∃ wo : World, wo = wr := ⟨_, rfl⟩
              go_wp2_with fail
              go_loopg [44] (li.length) (fun gj jv wj => ∃ (j : Nat) (s' : List Bool) (m' : Bool), j ≤ li.length ∧ gj = li.length - j ∧ jv = .int .i64 j ∧ Hid (SeeSt wj w.heap.size w.heap.size (w.heap.size + 1 + 1) M (w.heap.size + 1) has.length (.slice (some ⟨b, o, none⟩) has.length hc) (.slice RA rn rc) s' m' ∧ RInv has l pairs s s' m' ∧ EClosed has s s' i j) ∧ Below w.heap.size w wj ∧ Below w.heap.size wo wj)
              case atStart => exact ⟨0, s1, m1, Nat.zero_le _, rfl, rfl, hkeep.out, hbl3, Below.refl _ _⟩
              case round =>
                obtain ⟨j, s2, m2, hj, rfl, rfl, hkeep, hbl4, hblo⟩ := hrel
                have hs2l := hkeep.out.2.1.len
                by_cases hlt4 : j < li.length
                · obtain ⟨b', o', x, rfl, hb', hx, hok, h0⟩ := (HLI.out.2.below (hblo.mono hB)).int_ hlt4
                  obtain ⟨n, rfl, hn⟩ := HH.out.2.2.2.1 li (List.mem_of_getElem? HLI.out.1) x (List.mem_of_getElem? hx)
                  obtain ⟨u, hu⟩ : ∃ v, s2[i]? = some v := ⟨_, List.getElem?_eq_getElem (by omega)⟩
                  have v0 := hkeep.out.1.2.1.cell 0 (v := .slice (some ⟨w.heap.size + 1, 0, none⟩) s2.length has.length) rfl
                  have v1 := hkeep.out.1.2.2.1.cell_bool hu
                  have i0 : (0 : Int) ≤ (i : Int) := by omega
                  have i1 : (i : Int) < (s2.length : Int) := by omega
                  cases u with
                  | false =>
                    have hec := hkeep.out.2.2.next HLI.out.1 hx (fun h => by have := hkeep.out.2.1.grows i h; rw [hu] at this; cases this)
                    have HE := Lib.hid (And.intro hkeep.out.1 (And.intro hkeep.out.2.1 hec)); clear hkeep hu hx hok hec
                    go_wp2_with fail
                    go_roundg (li.length - (j + 1))
                    case measure => omega
                    case rel => exact ⟨j + 1, s2, m2, by omega, rfl, by go_num, HE.out, hbl4, hblo⟩
                  | true =>
                    have hri := hkeep.out.2.1.see hn (.edge (hkeep.out.2.1.sound i hu) HLI.out.1 (List.mem_of_getElem? hx))
                    have hns : n < s2.length := by omega
                    have hec := (hkeep.out.2.2.grow (see_grows hns)).next HLI.out.1 hx (fun _ => see_get hns)
                    have hsee := see_any w.heap.size w.heap.size (w.heap.size + 1 + 1) M (w.heap.size + 1) has.length n _ _ s2 m2 wr hkeep.out.1 hns
                    have HSEE := Lib.hid (And.intro hsee (And.intro hri hec)); clear hkeep hu hx hok hec hri hsee
                    go_wp2_with fail
                    refine HSEE.out.1.mono ?_
                    rintro e w9 ⟨rfl, hse, hb9, hs9⟩
                    go_wp2_with fail
                    go_roundg (li.length - (j + 1))
                    case measure => omega
                    case rel => exact ⟨j + 1, _, _, by omega, rfl, by go_num, ⟨hse, HSEE.out.2⟩, hbl4.trans hb9, hblo.trans hb9⟩
                · have hec := hkeep.out.2.2.done HLI.out.1 (by omega)
                  have HE := Lib.hid (And.intro hkeep.out.1 (And.intro hkeep.out.2.1 hec)); clear hkeep hec
                  go_wp2_with fail
                  go_roundg (has.length - (i + 1))
                  case measure => omega
                  case rel => exact ⟨i + 1, s2, m2, by omega, rfl, by go_num, HE.out, hbl4⟩
            · obtain rfl : i = has.length := by omega
              go_wp2_with fail
              obtain ⟨wo, rfl⟩ : ∃ wo : World, wo = wr := ⟨_, rfl⟩
              go_loopg [59] (pairs.length) (fun gj jv wj => ∃ (j : Nat) (s' : List Bool) (m' : Bool), j ≤ pairs.length ∧ gj = pairs.length - j ∧ jv = .int .i64 j ∧ Hid (SeeSt wj w.heap.size w.heap.size (w.heap.size + 1 + 1) M (w.heap.size + 1) has.length (.slice HA has.length hc) (.slice RA rn rc) s' m' ∧ RInv has l pairs s s' m' ∧ EClosed has s s' has.length 0 ∧ PClosed pairs s s' j) ∧ Below w.heap.size w wj)
              case atStart => exact ⟨0, s1, m1, Nat.zero_le _, rfl, rfl, ⟨hkeep.out.1, hkeep.out.2.1, hkeep.out.2.2, PClosed.zero _ _ _⟩, hbl3⟩
              case round =>
                obtain ⟨j, s2, m2, hj, rfl, rfl, hkeep, hbl4⟩ := hrel
                have hs2l := hkeep.out.2.1.len
                have hsz4 := hbl4.size
                by_cases hlt4 : j < pairs.length
                · obtain ⟨b', o', x, y, rfl, hb', hx, -, -, g0, g1⟩ := (HH.out.2.2.1.below (hbl4.mono hB)).pair hlt4
                  obtain ⟨p, q, hpq, hp, hq⟩ := HH.out.2.2.2.2.2.1 _ (List.mem_of_getElem? hx)
                  injection hpq with e1 e2; subst e1 e2
                  obtain ⟨u, hu⟩ : ∃ v, s2[p]? = some v := ⟨_, List.getElem?_eq_getElem (by omega)⟩
                  have ltV := hkeep.out.1.2.1.lt
                  have ltS := (hkeep.out.1.2.2.1.lt (w.heap.size + 1) rfl).2
                  have v0 := hkeep.out.1.2.1.cell 0 (v := .slice (some ⟨w.heap.size + 1, 0, none⟩) s2.length has.length) rfl
                  have v1 := hkeep.out.1.2.2.1.cell_bool hu
                  have i0 : (0 : Int) ≤ (p : Int) := by omega
                  have i1 : (p : Int) < (s2.length : Int) := by omega
                  have hal := hkeep.out.1.alloc (.cells #[.int .i64 p, .int .i64 q] 63)
                  cases u with
                  | false =>
                    have hec := hkeep.out.2.2.2.next hx (fun h => by have := hkeep.out.2.1.grows p h; rw [hu] at this; cases this)
                    have HE := Lib.hid (And.intro hal (And.intro hkeep.out.2.1 (And.intro hkeep.out.2.2.1 hec))); clear hkeep hu hx hec hal
                    go_wp2_with fail
                    go_roundg (pairs.length - (j + 1))
                    case measure => omega
                    case rel => exact ⟨j + 1, s2, m2, by omega, rfl, by go_num, HE.out, hbl4.alloc (by omega) _⟩
                  | true =>
                    have hri := hkeep.out.2.1.see hq (.pair (hkeep.out.2.1.sound p hu) (List.mem_of_getElem? hx))
                    have hns : q < s2.length := by omega
                    have hec := (hkeep.out.2.2.2.grow (see_grows hns)).next hx (fun _ => see_get hns)
                    have hec2 := hkeep.out.2.2.1.grow (see_grows hns)
                    have hsee := see_any w.heap.size w.heap.size (w.heap.size + 1 + 1) M (w.heap.size + 1) has.length q _ _ s2 m2 _ hal hns
                    have HSEE := Lib.hid (And.intro hsee (And.intro hri (And.intro hec2 hec))); clear hkeep hu hx hec hec2 hri hsee hal
                    go_wp2_with fail
                    refine HSEE.out.1.mono ?_
                    rintro e w9 ⟨rfl, hse, hb9, hs9⟩
                    go_wp2_with fail
                    go_roundg (pairs.length - (j + 1))
                    case measure => omega
                    case rel => exact ⟨j + 1, _, _, by omega, rfl, by go_num, ⟨hse, HSEE.out.2⟩, (hbl4.alloc (by omega) _).trans hb9⟩
                · obtain rfl : j = pairs.length := by omega
                  have mm := hkeep.out.1.2.2.2.1.cell 0 (v := .bool m2) rfl
                  have hls := hkeep.out.2.1.less
                  have HE := Lib.hid hkeep.out; clear hkeep
                  go_wp2_with fail
                  go_roundg (if m2 = true then unseen s2 + 1 else 0)
                  case measure => cases m2 <;> simp at hls ⊢ <;> omega
                  case rel => exact ⟨_, s2, m2, rfl, rfl, hs2l, ⟨HE.out.1.newm m2, HE.out.2.1.sound, fun n hn => HE.out.2.1.grows n (HK.out.2.2.1 n hn), fun h => by
                    have e := HE.out.2.1.same h
                    obtain ⟨-, -, h3, h4⟩ := HE.out
                    rw [← e] at h3 h4
                    exact ⟨h3, h4⟩⟩, hbl4.alloc (by omega) _⟩

end Go.Proofs.Ytpkccpegdpodoaa
