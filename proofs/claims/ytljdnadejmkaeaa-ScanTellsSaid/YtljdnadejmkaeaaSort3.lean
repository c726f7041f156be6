/- slices.SortStableFunc at ints: insertion. -/
import Derived.Test.YtljdnadejmkaeaaSort2
import Derived.Test.YtljdnadejmkaeaaHeld
import Derived.Shelf.GgClosure.Gives
namespace Go.Proofs.Ytljdnadejmkaeaa
open Go.RowKit

attribute [local go_sem ↓] Go.wp_at_zero Go.wp_at_succ

/-- a comparison by a key that lays only blocks of its own, asked while one row is written -/
def CmpQ (P : Program) (g : Nat) (lb : Array Value) (f : Int → Int) (l : List Int) (row : Option Nat) (w : World) : Prop :=
  ∀ (W : World) (x y : Int), x ∈ l → y ∈ l → w.grownBy W row → Calls P g (#[.int .i64 x, .int .i64 y] ++ lb) W fun e W' => e = .returned (.int .i64 (Srt.cmpI (f x) (f y))) ∧ Below W.heap.size W W'

/-- what a round of the outer loop keeps -/
def InsSt (f : Int → Int) (X T Rst : List Int) : Prop := T.Perm (X.take T.length) ∧ Rst = X.drop T.length ∧ T.Pairwise (Srt.R f)
/-- what a round of the inner loop keeps -/
def InsIn (f : Int → Int) (T T1 T2 : List Int) (v : Int) : Prop := T = T1 ++ T2 ∧ ∀ t ∈ T2, f v < f t
theorem InsSt.start (f : Int → Int) (X : List Int) : InsSt f X (X.take 1) (X.drop 1) := by
  cases X with
  | nil => exact ⟨by simp, by simp, by simp⟩
  | cons x X => exact ⟨by simp, by simp, by simp⟩
theorem InsSt.next {f : Int → Int} {X T Rst T1 T2 : List Int} {v : Int} (h : InsSt f X T (v :: Rst)) (hX : X.Pairwise (· < ·)) (hi : InsIn f T T1 T2 v) (h1 : T1 = [] ∨ ∃ t, T1.getLast? = some t ∧ f t ≤ f v) : InsSt f X (T1 ++ v :: T2) Rst := by
  obtain ⟨hp, hr, hs⟩ := h
  obtain ⟨rfl, h2⟩ := hi
  have hlen : (T1 ++ v :: T2).length = (T1 ++ T2).length + 1 := by simp; omega
  have hv : X[(T1 ++ T2).length]? = some v := by
    have : (X.drop (T1 ++ T2).length)[0]? = some v := by rw [← hr]; rfl
    rw [List.getElem?_drop] at this; exact this
  refine ⟨?_, ?_, ?_⟩
  · rw [hlen, List.take_add_one, hv, Option.toList_some]
    have : (T1 ++ v :: T2).Perm ((T1 ++ T2) ++ [v]) := by
      refine (List.perm_middle).trans ?_
      exact (List.perm_append_singleton v (T1 ++ T2)).symm
    exact this.trans (List.Perm.append_right [v] hp)
  · rw [hlen, ← List.drop_drop, ← hr]; rfl
  · refine Srt.put_in hs (fun t ht => ?_) h1 h2
    have hm : t ∈ X.take (T1 ++ T2).length := hp.mem_iff.1 (by simp [ht])
    have hX' := hX
    rw [← List.take_append_drop (T1 ++ T2).length X, List.pairwise_append] at hX'
    exact hX'.2.2 t hm v (by rw [← hr]; simp)
theorem InsSt.done {f : Int → Int} {X T Rst : List Int} (h : InsSt f X T Rst) (hl : X.length ≤ T.length) : T.Perm X ∧ Rst = [] := by
  obtain ⟨hp, hr, -⟩ := h
  rw [List.take_of_length_le hl] at hp
  rw [List.drop_eq_nil_of_le hl] at hr
  exact ⟨hp, hr⟩
theorem InsSt.lens {f : Int → Int} {X T Rst : List Int} (h : InsSt f X T Rst) : T.length ≤ X.length ∧ Rst.length = X.length - T.length := by
  obtain ⟨hp, hr, -⟩ := h
  have := hp.length_eq
  rw [List.length_take] at this
  exact ⟨by omega, by rw [hr, List.length_drop]⟩
theorem InsSt.memT {f : Int → Int} {X T Rst : List Int} (h : InsSt f X T Rst) : (∀ t ∈ T, t ∈ X) ∧ ∀ t ∈ Rst, t ∈ X :=
  ⟨fun t ht => List.mem_of_mem_take (h.1.mem_iff.1 ht), fun t ht => by rw [h.2.1] at ht; exact List.mem_of_mem_drop ht⟩

set_option maxHeartbeats 1600000 in
set_option maxRecDepth 100000 in
theorem insertion_any (base g c a b N gf : Nat) (lb : Array Value) (f : Int → Int) (L P X S : List Int) (w : World) (h : Own w base 3 (some ⟨g, 0, none⟩) c (P ++ X ++ S)) (hN : (P ++ X ++ S).length = N) (hN5 : N ≤ 100000)
    (ha : P.length = a) (hb : a + X.length = b) (hX : X.Pairwise (· < ·)) (hL : ∀ x ∈ X, x ∈ L)
    (eg : ∀ args w, (callFunc gf args).run Try.prog w = .ok (.enter gf args) w) (hf : CmpQ Try.prog gf lb f L (some g) w) :
    Calls Try.prog 143 #[.slice (some ⟨g, 0, none⟩) N c, .int .i64 a, .int .i64 b, .func (.func gf) #[] lb] w fun e w' => e = .returned (.tuple #[]) ∧ (∃ Z, Z.Perm X ∧ Z.Pairwise (Srt.R f) ∧ Own w' base 3 (some ⟨g, 0, none⟩) c (P ++ Z ++ S)) ∧ w.grownBy w' (some g) := by
  have hbN : b ≤ N := by rw [← hN]; simp; omega
  have H := Lib.hid (And.intro h (And.intro hX (And.intro hL (And.intro ha (And.intro hb hN))))); clear h hX hL hN
  have HF := Lib.hid hf; clear hf
  have w0 : IntKind.i64.wrap ((a : Int) + 1) = (a : Int) + 1 := IntWalk.i64_in _ (by omega)
  go_enter Try.func143, Try.ntmps143
  go_wp2_with fail
  go_loopg [8] (b + 1 - (a + 1)) (fun gk iv wr => ∃ (i : Nat) (T Rst : List Int), a + 1 ≤ i ∧ i ≤ b + 1 ∧ gk = b + 1 - i ∧ iv = .int .i64 i ∧ Hid (InsSt f X T Rst ∧ a + T.length = min i b ∧ Own wr base 3 (some ⟨g, 0, none⟩) c (P ++ T ++ Rst ++ S)) ∧ w.grownBy wr (some g))
  case atStart => exact ⟨a + 1, X.take 1, X.drop 1, Nat.le_refl _, by omega, rfl, by go_num, ⟨InsSt.start f X, by rw [List.length_take]; have := H.out.2.2.2.2.1; omega, by have := H.out.1; rw [← List.take_append_drop 1 X] at this; simpa using this⟩, World.grownBy.refl w _⟩
  case round =>
    obtain ⟨i, T, Rst, hai, hib, rfl, rfl, hkeep, hgr⟩ := hrel
    clear w0
    by_cases hlt : i < b
    · obtain ⟨hst, hTl, hown⟩ := hkeep.out
      clear hkeep
      have hTl' : a + T.length = i := by omega
      obtain ⟨v, Rst', rfl⟩ : ∃ v R', Rst = v :: R' := by
        have := hst.lens.2
        have := H.out.2.2.2.2.1
        cases Rst with
        | nil => simp at *; omega
        | cons v R' => exact ⟨v, R', rfl⟩
      have HO := Lib.hid (And.intro hst (And.intro hTl' hown)); clear hst hTl hTl' hown
      go_wp2_with fail
      go_loopg [9] (i - a) (fun gj jv wr2 => ∃ (j : Nat) (T1 T2 : List Int), a ≤ j ∧ j ≤ i ∧ gj = j - a ∧ jv = .int .i64 j ∧ Hid (InsIn f T T1 T2 v ∧ a + T1.length = j ∧ Own wr2 base 3 (some ⟨g, 0, none⟩) c (P ++ T1 ++ v :: (T2 ++ (Rst' ++ S)))) ∧ w.grownBy wr2 (some g))
      case atStart => exact ⟨i, T, [], by omega, Nat.le_refl _, rfl, rfl, ⟨⟨by simp, by simp⟩, HO.out.2.1, by have := HO.out.2.2; simpa using this⟩, hgr⟩
      case round =>
        obtain ⟨j, T1, T2, haj, hji, rfl, rfl, hk2, hgr2⟩ := hrel
        by_cases hja : a < j
        · obtain ⟨T1', t, rfl⟩ : ∃ T1' t, T1 = T1' ++ [t] := by
            rcases List.eq_nil_or_concat T1 with rfl | ⟨T1', t, rfl⟩
            · have := hk2.out.2.1; simp at this; omega
            · exact ⟨T1', t, by simp⟩
          obtain ⟨hin, hjl, hown⟩ := hk2.out
          have hmem := HO.out.1.memT
          have htL : t ∈ L := H.out.2.2.1 t (hmem.1 t (by rw [hin.1]; simp))
          have hvL : v ∈ L := H.out.2.2.1 v (hmem.2 v (by simp))
          have hPl := H.out.2.2.2.1
          have e1 : P ++ (T1' ++ [t]) ++ v :: (T2 ++ (Rst' ++ S)) = (P ++ T1') ++ t :: ([] ++ v :: (T2 ++ (Rst' ++ S))) := by simp
          have lA : (P ++ T1').length = j - 1 := by simp at hjl; simp; omega
          have lB : (P ++ T1').length + 1 + ([] : List Int).length = j := by rw [lA]; simp; omega
          rw [e1] at hown
          have gx : ((P ++ T1') ++ t :: ([] ++ v :: (T2 ++ (Rst' ++ S))))[j - 1]? = some t := by rw [← lA]; exact Srt.get_mid _ _ _
          have gy : ((P ++ T1') ++ t :: ([] ++ v :: (T2 ++ (Rst' ++ S))))[j]? = some v := by
            have := Srt.get_mid (P ++ T1' ++ [t]) (T2 ++ (Rst' ++ S)) v
            have l3 : (P ++ T1' ++ [t]).length = j := by rw [List.length_append, lA]; simp; omega
            rw [l3] at this
            simpa using this
          have cx := hown.cell_int gx
          have cy := hown.cell_int gy
          have hjp : IntKind.i64.wrap ((j : Int) - 1) = ((j - 1 : Nat) : Int) := by rw [IntWalk.i64_in _ (by omega)]; omega
          have hj0 : (0 : Int) ≤ (j : Int) := by omega
          have hjN : (j : Int) < (N : Int) := by omega
          have hq0 : (0 : Int) ≤ ((j - 1 : Nat) : Int) := by omega
          have hqN : ((j - 1 : Nat) : Int) < (N : Int) := by omega
          have hcall := fun W hg => HF.out W v t hvL htL hg
          obtain ⟨cv, hcv⟩ : ∃ z, Srt.cmpI (f v) (f t) = z := ⟨_, rfl⟩
          rw [hcv] at hcall
          have hlt0 : cv < 0 ↔ f v < f t := by rw [← hcv]; exact Srt.cmpI_neg _ _
          have HC := Lib.hid (And.intro hcall (And.intro hlt0 (And.intro hin hjl))); clear hcall hlt0 hcv hin hjl hmem htL hvL
          obtain ⟨q, hq⟩ : ∃ q, j - 1 = q := ⟨_, rfl⟩
          rw [hq] at hjp hq0 hqN cx gx lA
          have hjq : q + 1 = j := by omega
          have hpd : decide ((a : Int) < (j : Int)) = true := by simp; omega
          have HW := Lib.hid (And.intro hown (And.intro gx gy)); clear hown gx gy hk2 e1
          have HLA := Lib.hid (And.intro lA lB); clear lA lB
          have HPL := Lib.hid hPl; clear hPl
          by_cases hneg : cv < 0
          · have hnd : decide (cv < 0) = true := by simpa using hneg
            go_wp2_with fail
            refine wp_region_held_drew (S := (fun w' => w'.cell? ⟨g, j, none⟩ = some (.int .i64 v) ∧ w'.cell? ⟨g, q, none⟩ = some (.int .i64 t))) (by kernel_rfl) ?_ (fun hHeld0 => ?_)
            · first | trivial | ((try dsimp only); (exact ⟨cy, cx⟩))
            refine held_take (v := ?_) 0 rfl (by kernel_rfl) (by kernel_rfl) (by kernel_rfl) (fun _ _ _ h => h) (by rfl) ?_ (by assumption) ?_
            rotate_left
            · (intro w hSw; (try dsimp only at hSw); go_simp; try with_reducible rfl)
            try simp only [Act.put, List.setIfInBounds_toArray, List.set_cons_zero, List.set_cons_succ]
            refine held_take (v := ?_) 1 rfl (by kernel_rfl) (by kernel_rfl) (by kernel_rfl) (fun _ _ _ h => h) (by rfl) ?_ (by assumption) ?_
            rotate_left
            · (intro w hSw; (try dsimp only at hSw); go_simp; try with_reducible rfl)
            try simp only [Act.put, List.setIfInBounds_toArray, List.set_cons_zero, List.set_cons_succ]
            refine held_take (v := ?_) 2 rfl (by kernel_rfl) (by kernel_rfl) (by kernel_rfl) (fun _ _ _ h => h) (by rfl) ?_ (by assumption) ?_
            rotate_left
            · (intro w hSw; (try dsimp only at hSw); go_simp; try with_reducible rfl)
            try simp only [Act.put, List.setIfInBounds_toArray, List.set_cons_zero, List.set_cons_succ]
            refine held_take (v := ?_) 3 rfl (by kernel_rfl) (by kernel_rfl) (by kernel_rfl) (fun _ _ _ h => h) (by rfl) ?_ (by assumption) ?_
            rotate_left
            · (intro w hSw; (try dsimp only at hSw); go_simp; try with_reducible rfl)
            try simp only [Act.put, List.setIfInBounds_toArray, List.set_cons_zero, List.set_cons_succ]
            refine held_take (v := ?_) 4 rfl (by kernel_rfl) (by kernel_rfl) (by kernel_rfl) (fun _ _ _ h => h) (by rfl) ?_ (by assumption) ?_
            rotate_left
            · (intro w hSw; (try dsimp only at hSw); go_simp; try with_reducible rfl)
            try simp only [Act.put, List.setIfInBounds_toArray, List.set_cons_zero, List.set_cons_succ]
            refine held_take (v := ?_) 5 rfl (by kernel_rfl) (by kernel_rfl) (by kernel_rfl) (fun _ _ _ h => h) (by rfl) ?_ (by assumption) ?_
            rotate_left
            · (intro w hSw; (try dsimp only at hSw); go_simp; try with_reducible rfl)
            try simp only [Act.put, List.setIfInBounds_toArray, List.set_cons_zero, List.set_cons_succ]
            refine held_take (v := ?_) 6 rfl (by kernel_rfl) (by kernel_rfl) (by kernel_rfl) (fun _ _ _ h => h) (by rfl) ?_ (by assumption) ?_
            rotate_left
            · (intro w hSw; (try dsimp only at hSw); go_simp; try with_reducible rfl)
            try simp only [Act.put, List.setIfInBounds_toArray, List.set_cons_zero, List.set_cons_succ]
            refine held_take (v := ?_) 7 rfl (by kernel_rfl) (by kernel_rfl) (by kernel_rfl) (fun _ _ _ h => h) (by rfl) ?_ (by assumption) ?_
            rotate_left
            · (intro w hSw; (try dsimp only at hSw); go_simp; try with_reducible rfl)
            try simp only [Act.put, List.setIfInBounds_toArray, List.set_cons_zero, List.set_cons_succ]
            refine held_take (v := ?_) 8 rfl (by kernel_rfl) (by kernel_rfl) (by kernel_rfl) (fun _ _ _ h => h) (by rfl) ?_ (by assumption) ?_
            rotate_left
            · (intro w hSw; (try dsimp only at hSw); go_simp; try with_reducible rfl)
            try simp only [Act.put, List.setIfInBounds_toArray, List.set_cons_zero, List.set_cons_succ]
            refine held_take (v := ?_) 9 rfl (by kernel_rfl) (by kernel_rfl) (by kernel_rfl) (fun _ _ _ h => h) (by rfl) ?_ (by assumption) ?_
            rotate_left
            · (intro w hSw; (try dsimp only at hSw); go_simp; try with_reducible rfl)
            try simp only [Act.put, List.setIfInBounds_toArray, List.set_cons_zero, List.set_cons_succ]
            refine held_take (v := ?_) 10 rfl (by kernel_rfl) (by kernel_rfl) (by kernel_rfl) (fun _ _ _ h => h) (by rfl) ?_ (by assumption) ?_
            rotate_left
            · (intro w hSw; (try dsimp only at hSw); go_simp; try with_reducible rfl)
            try simp only [Act.put, List.setIfInBounds_toArray, List.set_cons_zero, List.set_cons_succ]
            refine held_take (v := ?_) 11 rfl (by kernel_rfl) (by kernel_rfl) (by kernel_rfl) (fun _ _ _ h => h) (by rfl) ?_ (by assumption) ?_
            rotate_left
            · (intro w hSw; (try dsimp only at hSw); go_simp; try with_reducible rfl)
            try simp only [Act.put, List.setIfInBounds_toArray, List.set_cons_zero, List.set_cons_succ]
            refine held_take (v := ?_) 12 rfl (by kernel_rfl) (by kernel_rfl) (by kernel_rfl) (fun _ _ _ h => h) (by rfl) ?_ (by assumption) ?_
            rotate_left
            · (intro w hSw; (try dsimp only at hSw); go_simp; try with_reducible rfl)
            try simp only [Act.put, List.setIfInBounds_toArray, List.set_cons_zero, List.set_cons_succ]
            refine held_take (v := ?_) 13 rfl (by kernel_rfl) (by kernel_rfl) (by kernel_rfl) (fun _ _ _ h => h) (by rfl) ?_ (by assumption) ?_
            rotate_left
            · (intro w hSw; (try dsimp only at hSw); go_simp; try with_reducible rfl)
            try simp only [Act.put, List.setIfInBounds_toArray, List.set_cons_zero, List.set_cons_succ]
            refine held_call 14 (by kernel_rfl) rfl (fun K hK => ?_)
            go_simp
            go_at_fn gf; refine (HC.out.1 _ (grownBy_drewN hgr2 1)).mono ?_; rintro e w3 ⟨rfl, hb3d⟩; have hb3 : Below wr.heap.size wr w3 := undrew hb3d; clear hb3d
            try (go_wp2_with fail)
            refine hK.out _ _ ?_ (fun hHeld1 => ?_)
            · first | trivial | ((try dsimp only); (exact ⟨(HW.out.1.fresh hb3).cell_int HW.out.2.2, (HW.out.1.fresh hb3).cell_int HW.out.2.1⟩))
            clear hK K hHeld0
            try simp only [Act.put, List.setIfInBounds_toArray, List.set_cons_zero, List.set_cons_succ]
            refine held_take (v := ?_) 15 rfl (by kernel_rfl) (by kernel_rfl) (by kernel_rfl) (fun _ _ _ h => h) (by rfl) ?_ (by assumption) ?_
            rotate_left
            · (intro w hSw; (try dsimp only at hSw); go_simp; try with_reducible rfl)
            try simp only [Act.put, List.setIfInBounds_toArray, List.set_cons_zero, List.set_cons_succ]
            refine held_take (v := ?_) 16 rfl (by kernel_rfl) (by kernel_rfl) (by kernel_rfl) (fun _ _ _ h => h) (by rfl) ?_ (by assumption) ?_
            rotate_left
            · (intro w hSw; (try dsimp only at hSw); go_simp; try with_reducible rfl)
            try simp only [Act.put, List.setIfInBounds_toArray, List.set_cons_zero, List.set_cons_succ]
            refine wpAnyH_done (by kernel_rfl) ?_ _
            clear cx cy
            have hgr3 : w.grownBy w3 (some g) := hgr2.trans (grownBy_below _ hb3)
            have ho3 := HW.out.1.fresh hb3
            have cx := ho3.cell_int HW.out.2.1
            have cy := ho3.cell_int HW.out.2.2
            have z0 := ho3.frozen (g := g) rfl j
            have hjlen : j < ((P ++ T1') ++ t :: ([] ++ v :: (T2 ++ (Rst' ++ S)))).length := (List.getElem?_eq_some_iff.1 HW.out.2.2).1
            have ho4 := ho3.set_int t hjlen
            have z1 := ho4.frozen (g := g) rfl q
            have cx2 := ho4.cell_int (i := q) (b := t) (by rw [List.getElem?_set_ne (by omega)]; exact HW.out.2.1)
            have hsw := ho3.swap2_ HW.out.2.2 HW.out.2.1
            have hsp := Srt.swap2_comm_parts (P ++ T1') [] (T2 ++ (Rst' ++ S)) t v
            rw [HLA.out.2, HLA.out.1] at hsp
            rw [hsp] at hsw
            have hgw : w.grownBy ((w3.setCell ⟨g, j, none⟩ (.int .i64 t)).setCell ⟨g, q, none⟩ (.int .i64 v)) (some g) := (hgr3.trans (grownBy_setCell _ _ _ _)).trans (grownBy_setCell _ _ _ _)
            have HS := Lib.hid (And.intro hsw hgw); clear hsw hgw ho3 ho4 hsp hjlen hgr3
            go_wp2_with fail
            go_region
            go_wp2_with fail
            go_roundg (q - a)
            case measure => omega
            case rel => exact ⟨q, T1', t :: T2, by omega, by omega, rfl, by go_num, ⟨⟨by rw [HC.out.2.2.1.1]; simp, by intro u hu; rcases List.mem_cons.1 hu with rfl | hu; exact HC.out.2.1.1 hneg; exact HC.out.2.2.1.2 u hu⟩, by have := HC.out.2.2.2; simp at this; omega, by have := HS.out.1.drew; simpa using this⟩, grownBy_drewN HS.out.2 1⟩
          · have hnd : decide (cv < 0) = false := by simpa using hneg
            go_wp2_with fail
            refine wp_region_held_drew (S := (fun w' => w'.cell? ⟨g, j, none⟩ = some (.int .i64 v) ∧ w'.cell? ⟨g, q, none⟩ = some (.int .i64 t))) (by kernel_rfl) ?_ (fun hHeld0 => ?_)
            · first | trivial | ((try dsimp only); (exact ⟨cy, cx⟩))
            refine held_take (v := ?_) 0 rfl (by kernel_rfl) (by kernel_rfl) (by kernel_rfl) (fun _ _ _ h => h) (by rfl) ?_ (by assumption) ?_
            rotate_left
            · (intro w hSw; (try dsimp only at hSw); go_simp; try with_reducible rfl)
            try simp only [Act.put, List.setIfInBounds_toArray, List.set_cons_zero, List.set_cons_succ]
            refine held_take (v := ?_) 1 rfl (by kernel_rfl) (by kernel_rfl) (by kernel_rfl) (fun _ _ _ h => h) (by rfl) ?_ (by assumption) ?_
            rotate_left
            · (intro w hSw; (try dsimp only at hSw); go_simp; try with_reducible rfl)
            try simp only [Act.put, List.setIfInBounds_toArray, List.set_cons_zero, List.set_cons_succ]
            refine held_take (v := ?_) 2 rfl (by kernel_rfl) (by kernel_rfl) (by kernel_rfl) (fun _ _ _ h => h) (by rfl) ?_ (by assumption) ?_
            rotate_left
            · (intro w hSw; (try dsimp only at hSw); go_simp; try with_reducible rfl)
            try simp only [Act.put, List.setIfInBounds_toArray, List.set_cons_zero, List.set_cons_succ]
            refine held_take (v := ?_) 3 rfl (by kernel_rfl) (by kernel_rfl) (by kernel_rfl) (fun _ _ _ h => h) (by rfl) ?_ (by assumption) ?_
            rotate_left
            · (intro w hSw; (try dsimp only at hSw); go_simp; try with_reducible rfl)
            try simp only [Act.put, List.setIfInBounds_toArray, List.set_cons_zero, List.set_cons_succ]
            refine held_take (v := ?_) 4 rfl (by kernel_rfl) (by kernel_rfl) (by kernel_rfl) (fun _ _ _ h => h) (by rfl) ?_ (by assumption) ?_
            rotate_left
            · (intro w hSw; (try dsimp only at hSw); go_simp; try with_reducible rfl)
            try simp only [Act.put, List.setIfInBounds_toArray, List.set_cons_zero, List.set_cons_succ]
            refine held_take (v := ?_) 5 rfl (by kernel_rfl) (by kernel_rfl) (by kernel_rfl) (fun _ _ _ h => h) (by rfl) ?_ (by assumption) ?_
            rotate_left
            · (intro w hSw; (try dsimp only at hSw); go_simp; try with_reducible rfl)
            try simp only [Act.put, List.setIfInBounds_toArray, List.set_cons_zero, List.set_cons_succ]
            refine held_take (v := ?_) 6 rfl (by kernel_rfl) (by kernel_rfl) (by kernel_rfl) (fun _ _ _ h => h) (by rfl) ?_ (by assumption) ?_
            rotate_left
            · (intro w hSw; (try dsimp only at hSw); go_simp; try with_reducible rfl)
            try simp only [Act.put, List.setIfInBounds_toArray, List.set_cons_zero, List.set_cons_succ]
            refine held_take (v := ?_) 7 rfl (by kernel_rfl) (by kernel_rfl) (by kernel_rfl) (fun _ _ _ h => h) (by rfl) ?_ (by assumption) ?_
            rotate_left
            · (intro w hSw; (try dsimp only at hSw); go_simp; try with_reducible rfl)
            try simp only [Act.put, List.setIfInBounds_toArray, List.set_cons_zero, List.set_cons_succ]
            refine held_take (v := ?_) 8 rfl (by kernel_rfl) (by kernel_rfl) (by kernel_rfl) (fun _ _ _ h => h) (by rfl) ?_ (by assumption) ?_
            rotate_left
            · (intro w hSw; (try dsimp only at hSw); go_simp; try with_reducible rfl)
            try simp only [Act.put, List.setIfInBounds_toArray, List.set_cons_zero, List.set_cons_succ]
            refine held_take (v := ?_) 9 rfl (by kernel_rfl) (by kernel_rfl) (by kernel_rfl) (fun _ _ _ h => h) (by rfl) ?_ (by assumption) ?_
            rotate_left
            · (intro w hSw; (try dsimp only at hSw); go_simp; try with_reducible rfl)
            try simp only [Act.put, List.setIfInBounds_toArray, List.set_cons_zero, List.set_cons_succ]
            refine held_take (v := ?_) 10 rfl (by kernel_rfl) (by kernel_rfl) (by kernel_rfl) (fun _ _ _ h => h) (by rfl) ?_ (by assumption) ?_
            rotate_left
            · (intro w hSw; (try dsimp only at hSw); go_simp; try with_reducible rfl)
            try simp only [Act.put, List.setIfInBounds_toArray, List.set_cons_zero, List.set_cons_succ]
            refine held_take (v := ?_) 11 rfl (by kernel_rfl) (by kernel_rfl) (by kernel_rfl) (fun _ _ _ h => h) (by rfl) ?_ (by assumption) ?_
            rotate_left
            · (intro w hSw; (try dsimp only at hSw); go_simp; try with_reducible rfl)
            try simp only [Act.put, List.setIfInBounds_toArray, List.set_cons_zero, List.set_cons_succ]
            refine held_take (v := ?_) 12 rfl (by kernel_rfl) (by kernel_rfl) (by kernel_rfl) (fun _ _ _ h => h) (by rfl) ?_ (by assumption) ?_
            rotate_left
            · (intro w hSw; (try dsimp only at hSw); go_simp; try with_reducible rfl)
            try simp only [Act.put, List.setIfInBounds_toArray, List.set_cons_zero, List.set_cons_succ]
            refine held_take (v := ?_) 13 rfl (by kernel_rfl) (by kernel_rfl) (by kernel_rfl) (fun _ _ _ h => h) (by rfl) ?_ (by assumption) ?_
            rotate_left
            · (intro w hSw; (try dsimp only at hSw); go_simp; try with_reducible rfl)
            try simp only [Act.put, List.setIfInBounds_toArray, List.set_cons_zero, List.set_cons_succ]
            refine held_call 14 (by kernel_rfl) rfl (fun K hK => ?_)
            go_simp
            go_at_fn gf; refine (HC.out.1 _ (grownBy_drewN hgr2 1)).mono ?_; rintro e w3 ⟨rfl, hb3d⟩; have hb3 : Below wr.heap.size wr w3 := undrew hb3d; clear hb3d
            try (go_wp2_with fail)
            refine hK.out _ _ ?_ (fun hHeld1 => ?_)
            · first | trivial | ((try dsimp only); (exact ⟨(HW.out.1.fresh hb3).cell_int HW.out.2.2, (HW.out.1.fresh hb3).cell_int HW.out.2.1⟩))
            clear hK K hHeld0
            try simp only [Act.put, List.setIfInBounds_toArray, List.set_cons_zero, List.set_cons_succ]
            refine held_take (v := ?_) 15 rfl (by kernel_rfl) (by kernel_rfl) (by kernel_rfl) (fun _ _ _ h => h) (by rfl) ?_ (by assumption) ?_
            rotate_left
            · (intro w hSw; (try dsimp only at hSw); go_simp; try with_reducible rfl)
            try simp only [Act.put, List.setIfInBounds_toArray, List.set_cons_zero, List.set_cons_succ]
            refine held_take (v := ?_) 16 rfl (by kernel_rfl) (by kernel_rfl) (by kernel_rfl) (fun _ _ _ h => h) (by rfl) ?_ (by assumption) ?_
            rotate_left
            · (intro w hSw; (try dsimp only at hSw); go_simp; try with_reducible rfl)
            try simp only [Act.put, List.setIfInBounds_toArray, List.set_cons_zero, List.set_cons_succ]
            refine wpAnyH_done (by kernel_rfl) ?_ _
            clear cx cy
            have hgr3 : w.grownBy w3 (some g) := hgr2.trans (grownBy_below _ hb3)
            have ho3 := HW.out.1.fresh hb3
            have hnx : InsSt f X ((T1' ++ [t]) ++ v :: T2) Rst' := HO.out.1.next H.out.2.1 HC.out.2.2.1 (.inr ⟨t, by simp, by have := HC.out.2.1; omega⟩)
            have HS := Lib.hid (And.intro hnx ho3); clear hnx ho3
            go_wp2_with fail
            go_roundg (b + 1 - (i + 1))
            case measure => omega
            case rel => exact ⟨i + 1, _, Rst', by omega, by omega, rfl, by go_num, ⟨HS.out.1, by have h1 := HC.out.2.2.2; have h2 := HC.out.2.2.1.1; have h3 := HO.out.2.1; rw [h2] at h3; simp at h1 h3 ⊢; omega, by have := HS.out.2; simpa using this⟩, hgr3⟩
        · obtain rfl : a = j := by omega
          have hpd : decide ((a : Int) < (a : Int)) = false := by simp
          have hT1 : T1 = [] := List.eq_nil_of_length_eq_zero (by have := hk2.out.2.1; omega)
          subst hT1
          have hnx : InsSt f X ([] ++ v :: T2) Rst' := HO.out.1.next H.out.2.1 hk2.out.1 (.inl rfl)
          have HS := Lib.hid hnx; clear hnx
          go_wp2_with fail
          refine wp_region_held_drew (S := (fun _ => True)) (by kernel_rfl) ?_ (fun hHeld0 => ?_)
          · first | trivial | ((try dsimp only); (trivial))
          refine held_take (v := ?_) 0 rfl (by kernel_rfl) (by kernel_rfl) (by kernel_rfl) (fun _ _ _ h => h) (by rfl) ?_ (by assumption) ?_
          rotate_left
          · (intro w hSw; (try dsimp only at hSw); go_simp; try with_reducible rfl)
          try simp only [Act.put, List.setIfInBounds_toArray, List.set_cons_zero, List.set_cons_succ]
          refine held_take (v := ?_) 1 rfl (by kernel_rfl) (by kernel_rfl) (by kernel_rfl) (fun _ _ _ h => h) (by rfl) ?_ (by assumption) ?_
          rotate_left
          · (intro w hSw; (try dsimp only at hSw); go_simp; try with_reducible rfl)
          try simp only [Act.put, List.setIfInBounds_toArray, List.set_cons_zero, List.set_cons_succ]
          refine held_take (v := ?_) 2 rfl (by kernel_rfl) (by kernel_rfl) (by kernel_rfl) (fun _ _ _ h => h) (by rfl) ?_ (by assumption) ?_
          rotate_left
          · (intro w hSw; (try dsimp only at hSw); go_simp; try with_reducible rfl)
          try simp only [Act.put, List.setIfInBounds_toArray, List.set_cons_zero, List.set_cons_succ]
          refine held_take (v := ?_) 3 rfl (by kernel_rfl) (by kernel_rfl) (by kernel_rfl) (fun _ _ _ h => h) (by rfl) ?_ (by assumption) ?_
          rotate_left
          · (intro w hSw; (try dsimp only at hSw); go_simp; try with_reducible rfl)
          try simp only [Act.put, List.setIfInBounds_toArray, List.set_cons_zero, List.set_cons_succ]
          refine held_skip 4 rfl (by kernel_rfl) (by kernel_rfl) (by kernel_rfl) (fun _ _ _ h => h) (by rfl) (by assumption) ?_
          try simp only [Act.put, List.setIfInBounds_toArray, List.set_cons_zero, List.set_cons_succ]
          refine held_skip 5 rfl (by kernel_rfl) (by kernel_rfl) (by kernel_rfl) (fun _ _ _ h => h) (by rfl) (by assumption) ?_
          try simp only [Act.put, List.setIfInBounds_toArray, List.set_cons_zero, List.set_cons_succ]
          refine held_skip 6 rfl (by kernel_rfl) (by kernel_rfl) (by kernel_rfl) (fun _ _ _ h => h) (by rfl) (by assumption) ?_
          try simp only [Act.put, List.setIfInBounds_toArray, List.set_cons_zero, List.set_cons_succ]
          refine held_skip 7 rfl (by kernel_rfl) (by kernel_rfl) (by kernel_rfl) (fun _ _ _ h => h) (by rfl) (by assumption) ?_
          try simp only [Act.put, List.setIfInBounds_toArray, List.set_cons_zero, List.set_cons_succ]
          refine held_skip 8 rfl (by kernel_rfl) (by kernel_rfl) (by kernel_rfl) (fun _ _ _ h => h) (by rfl) (by assumption) ?_
          try simp only [Act.put, List.setIfInBounds_toArray, List.set_cons_zero, List.set_cons_succ]
          refine held_skip 9 rfl (by kernel_rfl) (by kernel_rfl) (by kernel_rfl) (fun _ _ _ h => h) (by rfl) (by assumption) ?_
          try simp only [Act.put, List.setIfInBounds_toArray, List.set_cons_zero, List.set_cons_succ]
          refine held_skip 10 rfl (by kernel_rfl) (by kernel_rfl) (by kernel_rfl) (fun _ _ _ h => h) (by rfl) (by assumption) ?_
          try simp only [Act.put, List.setIfInBounds_toArray, List.set_cons_zero, List.set_cons_succ]
          refine held_skip 11 rfl (by kernel_rfl) (by kernel_rfl) (by kernel_rfl) (fun _ _ _ h => h) (by rfl) (by assumption) ?_
          try simp only [Act.put, List.setIfInBounds_toArray, List.set_cons_zero, List.set_cons_succ]
          refine held_skip 12 rfl (by kernel_rfl) (by kernel_rfl) (by kernel_rfl) (fun _ _ _ h => h) (by rfl) (by assumption) ?_
          try simp only [Act.put, List.setIfInBounds_toArray, List.set_cons_zero, List.set_cons_succ]
          refine held_skip 13 rfl (by kernel_rfl) (by kernel_rfl) (by kernel_rfl) (fun _ _ _ h => h) (by rfl) (by assumption) ?_
          try simp only [Act.put, List.setIfInBounds_toArray, List.set_cons_zero, List.set_cons_succ]
          refine held_skip 14 rfl (by kernel_rfl) (by kernel_rfl) (by kernel_rfl) (fun _ _ _ h => h) (by rfl) (by assumption) ?_
          try simp only [Act.put, List.setIfInBounds_toArray, List.set_cons_zero, List.set_cons_succ]
          refine held_skip 15 rfl (by kernel_rfl) (by kernel_rfl) (by kernel_rfl) (fun _ _ _ h => h) (by rfl) (by assumption) ?_
          try simp only [Act.put, List.setIfInBounds_toArray, List.set_cons_zero, List.set_cons_succ]
          refine held_take (v := ?_) 16 rfl (by kernel_rfl) (by kernel_rfl) (by kernel_rfl) (fun _ _ _ h => h) (by rfl) ?_ (by assumption) ?_
          rotate_left
          · (intro w hSw; (try dsimp only at hSw); go_simp; try with_reducible rfl)
          try simp only [Act.put, List.setIfInBounds_toArray, List.set_cons_zero, List.set_cons_succ]
          refine wpAnyH_done (by kernel_rfl) ?_ _
          go_wp2_with fail
          go_roundg (b + 1 - (i + 1))
          case measure => omega
          case rel => exact ⟨i + 1, _, Rst', by omega, by omega, rfl, by go_num, ⟨HS.out, by have h2 := hk2.out.1.1; have h3 := HO.out.2.1; rw [h2] at h3; simp at h3 ⊢; omega, by have := hk2.out.2.2.drew; simpa using this⟩, grownBy_drewN hgr2 1⟩
    · have hd := hkeep.out.1.done (by have := hkeep.out.2.1; have := H.out.2.2.2.2.1; omega)
      obtain ⟨hp, rfl⟩ := hd
      have ho := hkeep.out.2.2
      rw [List.append_nil] at ho
      have HS := Lib.hid (And.intro hp (And.intro hkeep.out.1.2.2 ho)); clear hp ho hkeep
      go_wp2_with fail
      go_end0
      exact ⟨rfl, ⟨T, HS.out.1, HS.out.2.1, HS.out.2.2⟩, hgr⟩

end Go.Proofs.Ytljdnadejmkaeaa
