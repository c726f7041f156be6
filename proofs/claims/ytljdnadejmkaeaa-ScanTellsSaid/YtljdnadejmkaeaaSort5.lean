/- slices.SortStableFunc at ints: one of the right is put into the left. -/
import Derived.Test.YtljdnadejmkaeaaSort4
namespace Go.Proofs.Ytljdnadejmkaeaa
open Go.RowKit

attribute [local go_sem ↓] Go.wp_at_zero Go.wp_at_succ

set_option maxHeartbeats 1600000 in
set_option maxRecDepth 100000 in
theorem symOneR_any (base g c a m N gf : Nat) (lb : Array Value) (f : Int → Int) (L P X S : List Int) (y : Int) (w : World) (h : Own w base 3 (some ⟨g, 0, none⟩) c (P ++ X ++ y :: S)) (hN : (P ++ X ++ y :: S).length = N) (hN5 : N ≤ 100000)
    (ha : P.length = a) (hm : a + X.length = m) (h1 : 1 < X.length) (hXs : X.Pairwise (Srt.R f)) (hlt : ∀ x ∈ X, x < y) (hL : ∀ z ∈ y :: X, z ∈ L)
    (eg : ∀ args w, (callFunc gf args).run Try.prog w = .ok (.enter gf args) w) (hf : CmpQ Try.prog gf lb f L (some g) w) :
    Calls Try.prog 144 #[.slice (some ⟨g, 0, none⟩) N c, .int .i64 a, .int .i64 m, .int .i64 ((m : Int) + 1), .func (.func gf) #[] lb] w fun e w' => e = .returned (.tuple #[]) ∧ (∃ Z, Z.Perm (X ++ [y]) ∧ Z.Pairwise (Srt.R f) ∧ Own w' base 3 (some ⟨g, 0, none⟩) c (P ++ Z ++ S)) ∧ w.grownBy w' (some g) := by
  have hmN : m < N := by rw [← hN]; simp; omega
  have ham : a + 1 < m := by omega
  obtain ⟨l, hl⟩ : ∃ l, P ++ X ++ y :: S = l := ⟨_, rfl⟩
  have hly : l[m]? = some y := by rw [← hl, ← show (P ++ X).length = m by simp; omega]; exact Srt.get_mid _ _ _
  have hlx : ∀ k t, a ≤ k → k < m → l[k]? = some t → t ∈ X := by
    intro k t h1 h2 h3
    rw [← hl, List.append_assoc, List.getElem?_append_right (by omega), List.getElem?_append_left (by omega)] at h3
    exact List.mem_of_getElem? h3
  rw [hl] at h hN
  have H := Lib.hid (And.intro h (And.intro hL (And.intro ha (And.intro hm (And.intro hN (And.intro hl (And.intro hly hlx))))))); clear h hL hN hm hlx hly
  have HY := Lib.hid (And.intro hXs hlt); clear hXs hlt
  have HF := Lib.hid hf; clear hf
  clear hl ha h1
  have hne : ((m : Int) - (a : Int) == 1) = false := by simp; omega
  have wm1 : IntKind.i64.wrap ((m : Int) - (a : Int)) = (m : Int) - (a : Int) := IntWalk.i64_in _ (by omega)
  have wm2 : IntKind.i64.wrap ((m : Int) + 1 - (m : Int)) = 1 := by rw [IntWalk.i64_in _ (by omega)]; omega
  go_enter Try.func144, Try.ntmps144
  go_wp2_with fail
  go_loopg [14, 15, 16] (m - a) (fun gk iv jv hv wr => ∃ (i j : Nat), a ≤ i ∧ i ≤ j ∧ j ≤ m ∧ gk = j - i ∧ iv = .int .i64 i ∧ jv = .int .i64 j ∧ Hid (SrcSt (fun t => f t ≤ f y) l a m i j ∧ Own wr base 3 (some ⟨g, 0, none⟩) c l) ∧ w.grownBy wr (some g))
  case atStart => exact ⟨a, m, Nat.le_refl _, by omega, Nat.le_refl _, rfl, rfl, rfl, ⟨⟨.inl rfl, .inl rfl⟩, H.out.1⟩, World.grownBy.refl w _⟩
  case round =>
    obtain ⟨i, j, hai, hij, hjb, rfl, rfl, rfl, hkeep, hgr⟩ := hrel
    clear wm1 wm2 hne
    by_cases hlt : i < j
    · obtain ⟨h, hh⟩ : ∃ h : Nat, (i + j) / 2 = h := ⟨_, rfl⟩
      have hih : i ≤ h := by omega
      have hhj : h < j := by omega
      have hh2 : ((i : Int) + (j : Int)) / 2 = (h : Int) := by omega
      clear hh
      obtain ⟨hst, hown⟩ := hkeep.out
      have hlen := H.out.2.2.2.2.1
      obtain ⟨t, gt⟩ := get_some (l := l) (i := h) (by omega)
      have gy := H.out.2.2.2.2.2.2.1
      have cy := hown.cell_int gy
      have ct := hown.cell_int gt
      have htX := H.out.2.2.2.2.2.2.2 h t (by omega) (by omega) gt
      have hcall := fun W hg => HF.out W y t (H.out.2.1 y (by simp)) (H.out.2.1 t (by simp [htX])) hg
      obtain ⟨cv, hcv⟩ : ∃ z, Srt.cmpI (f y) (f t) = z := ⟨_, rfl⟩
      rw [hcv] at hcall
      have hlt0 : cv < 0 ↔ f y < f t := by rw [← hcv]; exact Srt.cmpI_neg _ _
      have HC := Lib.hid (And.intro hcall (And.intro hlt0 (And.intro gt (And.intro gy (And.intro hst hown))))); clear hcall hlt0 hcv htX gt gy hst hown hkeep hlen
      have hhN : h < N := by omega
      have hh1 : IntKind.i64.wrap ((h : Int) + 1) = (h : Int) + 1 := IntWalk.i64_in _ (by omega)
      by_cases hneg : cv < 0
      · have hnd : decide (cv < 0) = true := by simpa using hneg
        go_wp2_with fail
        refine wp_region_held_drew (S := (fun w' => w'.cell? ⟨g, h, none⟩ = some (.int .i64 t) ∧ w'.cell? ⟨g, m, none⟩ = some (.int .i64 y))) (by kernel_rfl) ?_ (fun hHeld0 => ?_)
        · first | trivial | ((try dsimp only); (exact ⟨ct, cy⟩))
        refine held_take (v := ?_) 0 rfl (by kernel_rfl) (by kernel_rfl) (by kernel_rfl) (fun _ _ _ h => h) (by rfl) ?_ (by assumption) ?_
        rotate_left
        · (intro w hSw; (try dsimp only at hSw); go_simp; try with_reducible rfl)
        try simp only [Act.put, List.setIfInBounds_toArray, List.set_cons_zero, List.set_cons_succ]
        refine held_take (v := ?_) 1 rfl (by kernel_rfl) (by kernel_rfl) (by kernel_rfl) (fun _ _ _ h => h) (by rfl) ?_ (by assumption) ?_
        rotate_left
        · (intro w hSw; (try dsimp only at hSw); go_simp; try with_reducible rfl)
        try simp only [Act.put, List.setIfInBounds_toArray, List.set_cons_zero, List.set_cons_succ]
        refine held_take (v := ?_) 2 rfl (by kernel_rfl) (by kernel_rfl) (by kernel_rfl) (fun _ _ _ h => h) (by rfl) ?_ (by assumption) ?_
        rotate_left
        · (intro w hSw; (try dsimp only at hSw); go_simp; try with_reducible rfl)
        try simp only [Act.put, List.setIfInBounds_toArray, List.set_cons_zero, List.set_cons_succ]
        refine held_take (v := ?_) 3 rfl (by kernel_rfl) (by kernel_rfl) (by kernel_rfl) (fun _ _ _ h => h) (by rfl) ?_ (by assumption) ?_
        rotate_left
        · (intro w hSw; (try dsimp only at hSw); go_simp; try with_reducible rfl)
        try simp only [Act.put, List.setIfInBounds_toArray, List.set_cons_zero, List.set_cons_succ]
        refine held_take (v := ?_) 4 rfl (by kernel_rfl) (by kernel_rfl) (by kernel_rfl) (fun _ _ _ h => h) (by rfl) ?_ (by assumption) ?_
        rotate_left
        · (intro w hSw; (try dsimp only at hSw); go_simp; try with_reducible rfl)
        try simp only [Act.put, List.setIfInBounds_toArray, List.set_cons_zero, List.set_cons_succ]
        refine held_take (v := ?_) 5 rfl (by kernel_rfl) (by kernel_rfl) (by kernel_rfl) (fun _ _ _ h => h) (by rfl) ?_ (by assumption) ?_
        rotate_left
        · (intro w hSw; (try dsimp only at hSw); go_simp; try with_reducible rfl)
        try simp only [Act.put, List.setIfInBounds_toArray, List.set_cons_zero, List.set_cons_succ]
        refine held_take (v := ?_) 6 rfl (by kernel_rfl) (by kernel_rfl) (by kernel_rfl) (fun _ _ _ h => h) (by rfl) ?_ (by assumption) ?_
        rotate_left
        · (intro w hSw; (try dsimp only at hSw); go_simp; try with_reducible rfl)
        try simp only [Act.put, List.setIfInBounds_toArray, List.set_cons_zero, List.set_cons_succ]
        refine held_take (v := ?_) 7 rfl (by kernel_rfl) (by kernel_rfl) (by kernel_rfl) (fun _ _ _ h => h) (by rfl) ?_ (by assumption) ?_
        rotate_left
        · (intro w hSw; (try dsimp only at hSw); go_simp; try with_reducible rfl)
        try simp only [Act.put, List.setIfInBounds_toArray, List.set_cons_zero, List.set_cons_succ]
        refine held_take (v := ?_) 8 rfl (by kernel_rfl) (by kernel_rfl) (by kernel_rfl) (fun _ _ _ h => h) (by rfl) ?_ (by assumption) ?_
        rotate_left
        · (intro w hSw; (try dsimp only at hSw); go_simp; try with_reducible rfl)
        try simp only [Act.put, List.setIfInBounds_toArray, List.set_cons_zero, List.set_cons_succ]
        refine held_call 9 (by kernel_rfl) rfl (fun K hK => ?_)
        go_simp
        go_at_fn gf; refine (HC.out.1 _ (grownBy_drewN hgr 1)).mono ?_; rintro e w3 ⟨rfl, hb3d⟩; have hb3 : Below wr.heap.size wr w3 := undrew hb3d; clear hb3d
        try (go_wp2_with fail)
        refine hK.out _ _ ?_ (fun hHeld1 => ?_)
        · first | trivial | ((try dsimp only); (exact ⟨(HC.out.2.2.2.2.2.fresh hb3).cell_int HC.out.2.2.1, (HC.out.2.2.2.2.2.fresh hb3).cell_int HC.out.2.2.2.1⟩))
        clear hK K hHeld0
        try simp only [Act.put, List.setIfInBounds_toArray, List.set_cons_zero, List.set_cons_succ]
        refine held_take (v := ?_) 10 rfl (by kernel_rfl) (by kernel_rfl) (by kernel_rfl) (fun _ _ _ h => h) (by rfl) ?_ (by assumption) ?_
        rotate_left
        · (intro w hSw; (try dsimp only at hSw); go_simp; try with_reducible rfl)
        try simp only [Act.put, List.setIfInBounds_toArray, List.set_cons_zero, List.set_cons_succ]
        refine held_take (v := ?_) 11 rfl (by kernel_rfl) (by kernel_rfl) (by kernel_rfl) (fun _ _ _ h => h) (by rfl) ?_ (by assumption) ?_
        rotate_left
        · (intro w hSw; (try dsimp only at hSw); go_simp; try with_reducible rfl)
        try simp only [Act.put, List.setIfInBounds_toArray, List.set_cons_zero, List.set_cons_succ]
        refine wpAnyH_done (by kernel_rfl) ?_ _
        go_wp2_with fail
        go_roundg (h - i)
        case measure => omega
        case rel => exact ⟨i, h, hai, hih, by omega, rfl, rfl, rfl, ⟨⟨HC.out.2.2.2.2.1.1, .inr ⟨t, HC.out.2.2.1, by have := HC.out.2.1.1 hneg; omega⟩⟩, HC.out.2.2.2.2.2.fresh hb3⟩, hgr.trans (grownBy_below _ hb3)⟩
      · have hnd : decide (cv < 0) = false := by simpa using hneg
        go_wp2_with fail
        refine wp_region_held_drew (S := (fun w' => w'.cell? ⟨g, h, none⟩ = some (.int .i64 t) ∧ w'.cell? ⟨g, m, none⟩ = some (.int .i64 y))) (by kernel_rfl) ?_ (fun hHeld0 => ?_)
        · first | trivial | ((try dsimp only); (exact ⟨ct, cy⟩))
        refine held_take (v := ?_) 0 rfl (by kernel_rfl) (by kernel_rfl) (by kernel_rfl) (fun _ _ _ h => h) (by rfl) ?_ (by assumption) ?_
        rotate_left
        · (intro w hSw; (try dsimp only at hSw); go_simp; try with_reducible rfl)
        try simp only [Act.put, List.setIfInBounds_toArray, List.set_cons_zero, List.set_cons_succ]
        refine held_take (v := ?_) 1 rfl (by kernel_rfl) (by kernel_rfl) (by kernel_rfl) (fun _ _ _ h => h) (by rfl) ?_ (by assumption) ?_
        rotate_left
        · (intro w hSw; (try dsimp only at hSw); go_simp; try with_reducible rfl)
        try simp only [Act.put, List.setIfInBounds_toArray, List.set_cons_zero, List.set_cons_succ]
        refine held_take (v := ?_) 2 rfl (by kernel_rfl) (by kernel_rfl) (by kernel_rfl) (fun _ _ _ h => h) (by rfl) ?_ (by assumption) ?_
        rotate_left
        · (intro w hSw; (try dsimp only at hSw); go_simp; try with_reducible rfl)
        try simp only [Act.put, List.setIfInBounds_toArray, List.set_cons_zero, List.set_cons_succ]
        refine held_take (v := ?_) 3 rfl (by kernel_rfl) (by kernel_rfl) (by kernel_rfl) (fun _ _ _ h => h) (by rfl) ?_ (by assumption) ?_
        rotate_left
        · (intro w hSw; (try dsimp only at hSw); go_simp; try with_reducible rfl)
        try simp only [Act.put, List.setIfInBounds_toArray, List.set_cons_zero, List.set_cons_succ]
        refine held_take (v := ?_) 4 rfl (by kernel_rfl) (by kernel_rfl) (by kernel_rfl) (fun _ _ _ h => h) (by rfl) ?_ (by assumption) ?_
        rotate_left
        · (intro w hSw; (try dsimp only at hSw); go_simp; try with_reducible rfl)
        try simp only [Act.put, List.setIfInBounds_toArray, List.set_cons_zero, List.set_cons_succ]
        refine held_take (v := ?_) 5 rfl (by kernel_rfl) (by kernel_rfl) (by kernel_rfl) (fun _ _ _ h => h) (by rfl) ?_ (by assumption) ?_
        rotate_left
        · (intro w hSw; (try dsimp only at hSw); go_simp; try with_reducible rfl)
        try simp only [Act.put, List.setIfInBounds_toArray, List.set_cons_zero, List.set_cons_succ]
        refine held_take (v := ?_) 6 rfl (by kernel_rfl) (by kernel_rfl) (by kernel_rfl) (fun _ _ _ h => h) (by rfl) ?_ (by assumption) ?_
        rotate_left
        · (intro w hSw; (try dsimp only at hSw); go_simp; try with_reducible rfl)
        try simp only [Act.put, List.setIfInBounds_toArray, List.set_cons_zero, List.set_cons_succ]
        refine held_take (v := ?_) 7 rfl (by kernel_rfl) (by kernel_rfl) (by kernel_rfl) (fun _ _ _ h => h) (by rfl) ?_ (by assumption) ?_
        rotate_left
        · (intro w hSw; (try dsimp only at hSw); go_simp; try with_reducible rfl)
        try simp only [Act.put, List.setIfInBounds_toArray, List.set_cons_zero, List.set_cons_succ]
        refine held_take (v := ?_) 8 rfl (by kernel_rfl) (by kernel_rfl) (by kernel_rfl) (fun _ _ _ h => h) (by rfl) ?_ (by assumption) ?_
        rotate_left
        · (intro w hSw; (try dsimp only at hSw); go_simp; try with_reducible rfl)
        try simp only [Act.put, List.setIfInBounds_toArray, List.set_cons_zero, List.set_cons_succ]
        refine held_call 9 (by kernel_rfl) rfl (fun K hK => ?_)
        go_simp
        go_at_fn gf; refine (HC.out.1 _ (grownBy_drewN hgr 1)).mono ?_; rintro e w3 ⟨rfl, hb3d⟩; have hb3 : Below wr.heap.size wr w3 := undrew hb3d; clear hb3d
        try (go_wp2_with fail)
        refine hK.out _ _ ?_ (fun hHeld1 => ?_)
        · first | trivial | ((try dsimp only); (exact ⟨(HC.out.2.2.2.2.2.fresh hb3).cell_int HC.out.2.2.1, (HC.out.2.2.2.2.2.fresh hb3).cell_int HC.out.2.2.2.1⟩))
        clear hK K hHeld0
        try simp only [Act.put, List.setIfInBounds_toArray, List.set_cons_zero, List.set_cons_succ]
        refine held_take (v := ?_) 10 rfl (by kernel_rfl) (by kernel_rfl) (by kernel_rfl) (fun _ _ _ h => h) (by rfl) ?_ (by assumption) ?_
        rotate_left
        · (intro w hSw; (try dsimp only at hSw); go_simp; try with_reducible rfl)
        try simp only [Act.put, List.setIfInBounds_toArray, List.set_cons_zero, List.set_cons_succ]
        refine held_take (v := ?_) 11 rfl (by kernel_rfl) (by kernel_rfl) (by kernel_rfl) (fun _ _ _ h => h) (by rfl) ?_ (by assumption) ?_
        rotate_left
        · (intro w hSw; (try dsimp only at hSw); go_simp; try with_reducible rfl)
        try simp only [Act.put, List.setIfInBounds_toArray, List.set_cons_zero, List.set_cons_succ]
        refine wpAnyH_done (by kernel_rfl) ?_ _
        go_wp2_with fail
        go_roundg (j - (h + 1))
        case measure => omega
        case rel => exact ⟨h + 1, j, by omega, by omega, hjb, rfl, by go_num, rfl, ⟨⟨.inr ⟨t, HC.out.2.2.1, by have := HC.out.2.1; omega⟩, HC.out.2.2.2.2.1.2⟩, HC.out.2.2.2.2.2.fresh hb3⟩, hgr.trans (grownBy_below _ hb3)⟩
    · obtain rfl : i = j := by omega
      obtain ⟨⟨hs1, hs2⟩, hown⟩ := hkeep.out
      obtain ⟨hLq, ha, hm, hNq, hl, hly, hlx⟩ := H.out.2
      obtain ⟨X1, X2, rfl, hX1⟩ := cut_at (l := X) (k := i - a) (by omega)
      have hXr := HY.out.1
      have hput : (X1 ++ y :: X2).Pairwise (Srt.R f) := by
        have el : l = P ++ (X1 ++ (X2 ++ y :: S)) := by rw [← hl]; simp
        refine Srt.put_in hXr (fun x hx => HY.out.2 x (by simp [hx])) ?_ ?_
        · rcases hs1 with hs1 | ⟨t, ht, hlt'⟩
          · exact .inl (List.eq_nil_of_length_eq_zero (by omega))
          · by_cases h0 : X1.length = 0
            · exact .inl (List.eq_nil_of_length_eq_zero h0)
            · refine .inr ⟨t, ?_, hlt'⟩
              rw [el, List.getElem?_append_right (by omega)] at ht
              refine last_of (B := X2 ++ y :: S) (by omega) ?_
              rw [← ht]; congr 1; omega
        · intro t ht
          rcases hs2 with hs2 | ⟨u, hu, hlt'⟩
          · exfalso; have : X2 = [] := List.eq_nil_of_length_eq_zero (by simp at hm; omega)
            subst this; simp at ht
          · rw [el, show i = (P ++ X1).length by simp; omega, ← List.append_assoc] at hu
            have := head_of hu
            cases X2 with
            | nil => simp at ht
            | cons z X2 =>
              simp at this
              subst this
              have hp := (List.pairwise_append.1 hXr).2.1
              have := Srt.head_le hp (z := z) rfl t ht
              omega
      have HP := Lib.hid (And.intro hput (And.intro ha (And.intro hm (And.intro hX1 (And.intro hown hl))))); clear hput hs1 hs2 hkeep hown ha hm hLq hNq hl hlx hly hXr hX1
      have HI := Lib.hid hlt; clear hlt
      go_wp2_with fail
      go_loopg [17] (m - i) (fun gk kv wr => ∃ (k : Nat) (T1 T2 : List Int), i ≤ k ∧ k ≤ m ∧ gk = k - i ∧ kv = .int .i64 k ∧ Hid (X2 = T1 ++ T2 ∧ i + T1.length = k ∧ Own wr base 3 (some ⟨g, 0, none⟩) c (P ++ X1 ++ T1 ++ y :: (T2 ++ S))) ∧ w.grownBy wr (some g))
      case atStart => exact ⟨m, X2, [], by omega, Nat.le_refl _, rfl, rfl, ⟨by simp, by have h1 := HP.out.2.2.1; have h2 := HP.out.2.2.2.1; simp at h1; omega, by have := HP.out.2.2.2.2.1; rw [← HP.out.2.2.2.2.2] at this; simpa using this⟩, hgr⟩
      case round =>
        obtain ⟨k, T1, T2, hik, hkm, rfl, rfl, hk2, hgr2⟩ := hrel
        by_cases hk1 : i < k
        · obtain ⟨hT, hTl, ho⟩ := hk2.out
          obtain ⟨T1', t, rfl⟩ : ∃ T' t, T1 = T' ++ [t] := by
            rcases List.eq_nil_or_concat T1 with rfl | ⟨T1', t, rfl⟩
            · simp at hTl; omega
            · exact ⟨T1', t, by simp⟩
          have lA : (P ++ X1 ++ T1').length = k - 1 := by have := HP.out.2.1; have := HP.out.2.2.2.1; simp at hTl ⊢; omega
          have lB : (P ++ X1 ++ T1').length + 1 + ([] : List Int).length = k := by rw [lA]; simp; omega
          have e1 : P ++ X1 ++ (T1' ++ [t]) ++ y :: (T2 ++ S) = (P ++ X1 ++ T1') ++ t :: ([] ++ y :: (T2 ++ S)) := by simp
          rw [e1] at ho
          have gt : ((P ++ X1 ++ T1') ++ t :: ([] ++ y :: (T2 ++ S)))[k - 1]? = some t := by rw [← lA]; exact Srt.get_mid _ _ _
          have gy : ((P ++ X1 ++ T1') ++ t :: ([] ++ y :: (T2 ++ S)))[k]? = some y := by
            have := Srt.get_mid (P ++ X1 ++ T1' ++ [t]) (T2 ++ S) y
            rw [show (P ++ X1 ++ T1' ++ [t]).length = k by rw [List.length_append, lA]; simp; omega] at this
            simpa using this
          have hsp := Srt.swap2_comm_parts (P ++ X1 ++ T1') [] (T2 ++ S) t y
          rw [lB, lA] at hsp
          have hk3 : IntKind.i64.wrap ((k : Int) - 1) = ((k - 1 : Nat) : Int) := by rw [IntWalk.i64_in _ (by omega)]; omega
          obtain ⟨q, hq⟩ : ∃ q, k - 1 = q := ⟨_, rfl⟩
          have hqk : q + 1 = k := by omega
          rw [hq] at hsp gt hk3
          have cy := ho.cell_int gy
          have ct := ho.cell_int gt
          have z0 := ho.frozen (g := g) rfl k
          have hkl := (List.getElem?_eq_some_iff.1 gy).1
          have ho2 := ho.set_int t hkl
          have z1 := ho2.frozen (g := g) rfl q
          have ct2 := ho2.cell_int (i := q) (b := t) (by rw [List.getElem?_set_ne (by omega)]; exact gt)
          have hsw := ho.swap2_ gy gt
          rw [hsp] at hsw
          have hgw : w.grownBy ((wr.setCell ⟨g, k, none⟩ (.int .i64 t)).setCell ⟨g, q, none⟩ (.int .i64 y)) (some g) := (hgr2.trans (grownBy_setCell _ _ _ _)).trans (grownBy_setCell _ _ _ _)
          have HS := Lib.hid (And.intro hsw (And.intro hgw (And.intro hT hTl))); clear hsw hgw ho ho2 hsp hkl hT hTl gy gt e1 lA lB hk2 hq
          have hkN : k < N := by omega
          have hqN : q < N := by omega
          go_wp2_with fail
          go_region
          go_wp2_with fail
          go_roundg (q - i)
          case measure => omega
          case rel => exact ⟨q, T1', t :: T2, by omega, by omega, rfl, by go_num, ⟨by rw [HS.out.2.2.1]; simp, by have := HS.out.2.2.2; simp at this; omega, by have := HS.out.1.drew; simpa using this⟩, grownBy_drewN HS.out.2.1 1⟩
        · obtain rfl : i = k := by omega
          obtain ⟨hT, hTl, ho⟩ := hk2.out
          have hT1 : T1 = [] := List.eq_nil_of_length_eq_zero (by omega)
          subst hT1
          have e : X2 = T2 := by rw [hT]; simp
          subst e
          have ho' : Own wr base 3 (some ⟨g, 0, none⟩) c (P ++ (X1 ++ y :: X2) ++ S) := by simpa using ho
          have hpm : (X1 ++ y :: X2).Perm (X1 ++ X2 ++ [y]) := List.perm_middle.trans (List.perm_append_singleton y (X1 ++ X2)).symm
          have HS := Lib.hid (And.intro ho' hpm); clear ho ho' hk2 hT hTl hpm
          go_wp2_with fail
          refine bodyPost_ret (results_none rfl _ _ _) rfl ?_
          exact ⟨rfl, ⟨X1 ++ y :: X2, HS.out.2, HP.out.1, by simpa using HS.out.1⟩, hgr2⟩

end Go.Proofs.Ytljdnadejmkaeaa
