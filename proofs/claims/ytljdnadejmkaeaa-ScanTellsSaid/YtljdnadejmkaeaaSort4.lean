/- slices.SortStableFunc at ints: one of the left is put into the right. -/
import Derived.Test.YtljdnadejmkaeaaSort3
namespace Go.Proofs.Ytljdnadejmkaeaa
open Go.RowKit

attribute [local go_sem ↓] Go.wp_at_zero Go.wp_at_succ

/-- what the search keeps: of numbers from lo to hi, those before i are so, those from j on are not -/
def SrcSt (ok : Int → Prop) (l : List Int) (lo hi i j : Nat) : Prop := (i = lo ∨ ∃ t, l[i - 1]? = some t ∧ ok t) ∧ (j = hi ∨ ∃ t, l[j]? = some t ∧ ¬ ok t)

theorem shr_one (x : Nat) (hx : x ≤ 1000000) : IntKind.u64.wrap (IntKind.i64.wrap (x : Int)) = (x : Int) := by
  rw [IntWalk.i64_in _ (by omega), IntKind.wrap_u64]; omega

theorem cut_at {l : List Int} {k : Nat} (h : k ≤ l.length) : ∃ A B, l = A ++ B ∧ A.length = k := ⟨l.take k, l.drop k, (List.take_append_drop _ _).symm, by rw [List.length_take]; omega⟩
theorem last_of {A B : List Int} {t : Int} (h : 0 < A.length) (ht : (A ++ B)[A.length - 1]? = some t) : A.getLast? = some t := by
  rw [List.getElem?_append_left (by omega)] at ht
  rw [List.getLast?_eq_getElem?]; exact ht
theorem head_of {A B : List Int} {t : Int} (ht : (A ++ B)[A.length]? = some t) : B.head? = some t := by
  rw [List.getElem?_append_right (Nat.le_refl _), Nat.sub_self] at ht
  rw [List.head?_eq_getElem?]; exact ht

set_option maxHeartbeats 1600000 in
set_option maxRecDepth 100000 in
theorem symOneL_any (base g c a b N gf : Nat) (lb : Array Value) (f : Int → Int) (L P Y S : List Int) (x : Int) (w : World) (h : Own w base 3 (some ⟨g, 0, none⟩) c (P ++ x :: (Y ++ S))) (hN : (P ++ x :: (Y ++ S)).length = N) (hN5 : N ≤ 100000)
    (ha : P.length = a) (hb : a + 1 + Y.length = b) (hYs : Y.Pairwise (Srt.R f)) (hlt : ∀ y ∈ Y, x < y) (hL : ∀ z ∈ x :: Y, z ∈ L)
    (eg : ∀ args w, (callFunc gf args).run Try.prog w = .ok (.enter gf args) w) (hf : CmpQ Try.prog gf lb f L (some g) w) :
    Calls Try.prog 144 #[.slice (some ⟨g, 0, none⟩) N c, .int .i64 a, .int .i64 ((a : Int) + 1), .int .i64 b, .func (.func gf) #[] lb] w fun e w' => e = .returned (.tuple #[]) ∧ (∃ Z, Z.Perm (x :: Y) ∧ Z.Pairwise (Srt.R f) ∧ Own w' base 3 (some ⟨g, 0, none⟩) c (P ++ Z ++ S)) ∧ w.grownBy w' (some g) := by
  have hbN : b ≤ N := by rw [← hN]; simp; omega
  obtain ⟨l, hl⟩ : ∃ l, P ++ x :: (Y ++ S) = l := ⟨_, rfl⟩
  have hlx : l[a]? = some x := by rw [← hl, ← ha]; exact Srt.get_mid _ _ _
  have hly : ∀ k t, a + 1 ≤ k → k < b → l[k]? = some t → t ∈ Y := by
    intro k t h1 h2 h3
    rw [← hl, List.getElem?_append_right (by omega), show k - P.length = (k - P.length - 1) + 1 by omega, List.getElem?_cons_succ, List.getElem?_append_left (by omega)] at h3
    exact List.mem_of_getElem? h3
  rw [hl] at h hN
  have H := Lib.hid (And.intro h (And.intro hL (And.intro ha (And.intro hb (And.intro hN (And.intro hl (And.intro hlx hly))))))); clear h hL hN hb hlx hly
  have HY := Lib.hid (And.intro hYs hlt); clear hYs hlt
  have HF := Lib.hid hf; clear hf
  clear hl ha
  have wm : IntKind.i64.wrap ((a : Int) + 1 - (a : Int)) = 1 := by rw [IntWalk.i64_in _ (by omega)]; omega
  go_enter Try.func144, Try.ntmps144
  go_wp2_with fail
  go_loopg [10, 11, 12] (b - (a + 1)) (fun gk iv jv hv wr => ∃ (i j : Nat), a + 1 ≤ i ∧ i ≤ j ∧ j ≤ b ∧ gk = j - i ∧ iv = .int .i64 i ∧ jv = .int .i64 j ∧ Hid (SrcSt (fun t => f t < f x) l (a + 1) b i j ∧ Own wr base 3 (some ⟨g, 0, none⟩) c l) ∧ w.grownBy wr (some g))
  case atStart => exact ⟨a + 1, b, Nat.le_refl _, by have := H.out.2.2.2.1; omega, Nat.le_refl _, rfl, by go_num, rfl, ⟨⟨.inl rfl, .inl rfl⟩, H.out.1⟩, World.grownBy.refl w _⟩
  case round =>
    obtain ⟨i, j, hai, hij, hjb, rfl, rfl, rfl, hkeep, hgr⟩ := hrel
    clear wm
    by_cases hlt : i < j
    · obtain ⟨h, hh⟩ : ∃ h : Nat, (i + j) / 2 = h := ⟨_, rfl⟩
      have hih : i ≤ h := by omega
      have hhj : h < j := by omega
      have hh2 : ((i : Int) + (j : Int)) / 2 = (h : Int) := by omega
      clear hh
      obtain ⟨hst, hown⟩ := hkeep.out
      have hlen := H.out.2.2.2.2.1
      obtain ⟨t, gt⟩ := get_some (l := l) (i := h) (by omega)
      have gx := H.out.2.2.2.2.2.2.1
      have cx := hown.cell_int gx
      have ct := hown.cell_int gt
      have htY := H.out.2.2.2.2.2.2.2 h t (by omega) (by omega) gt
      have hcall := fun W hg => HF.out W t x (H.out.2.1 t (by simp [htY])) (H.out.2.1 x (by simp)) hg
      obtain ⟨cv, hcv⟩ : ∃ z, Srt.cmpI (f t) (f x) = z := ⟨_, rfl⟩
      rw [hcv] at hcall
      have hlt0 : cv < 0 ↔ f t < f x := by rw [← hcv]; exact Srt.cmpI_neg _ _
      have HC := Lib.hid (And.intro hcall (And.intro hlt0 (And.intro gt (And.intro gx (And.intro hst hown))))); clear hcall hlt0 hcv htY gt gx hst hown hkeep hlen
      have haN : a < N := by omega
      have hhN : h < N := by omega
      have hh1 : IntKind.i64.wrap ((h : Int) + 1) = (h : Int) + 1 := IntWalk.i64_in _ (by omega)
      by_cases hneg : cv < 0
      · have hnd : decide (cv < 0) = true := by simpa using hneg
        go_wp2_with fail
        refine wp_region_held_drew (S := (fun w' => w'.cell? ⟨g, h, none⟩ = some (.int .i64 t) ∧ w'.cell? ⟨g, a, none⟩ = some (.int .i64 x))) (by kernel_rfl) ?_ (fun hHeld0 => ?_)
        · first | trivial | ((try dsimp only); (exact ⟨ct, cx⟩))
        refine held_take (v := ?_) 0 rfl (by kernel_rfl) (by kernel_rfl) (by kernel_rfl) (fun _ _ _ h => h) (by rfl) ?_ (by assumption) ?_
        rotate_left
        · (intro w hSw; (try dsimp only at hSw); go_simp; try with_reducible rfl)
        try simp only [Act.put, List.setIfInBounds_toArray, List.set_cons_zero, List.set_cons_succ]
        refine held_take (v := ?_) 1 rfl (by kernel_rfl) (by kernel_rfl) (by kernel_rfl) (fun _ _ _ h => h) (by rfl) ?_ (by assumption) ?_
        rotate_left
        · (intro w hSw; (try dsimp only at hSw); go_simp; try with_reducible rfl)
        try simp only [Act.put, List.setIfInBounds_toArray, List.set_cons_zero, List.set_cons_succ]
        refine held_take (v := ?_) 2 rfl (by kernel_rfl) (by kernel_rfl) (by kernel_rfl) (fun _ _ _ h => h) (by rfl) ?_ (by assumption) ?_
        rotate_left
        · (intro w hSw; (try dsimp only at hSw); go_simp; try with_reducible rfl)
        try simp only [Act.put, List.setIfInBounds_toArray, List.set_cons_zero, List.set_cons_succ]
        refine held_take (v := ?_) 3 rfl (by kernel_rfl) (by kernel_rfl) (by kernel_rfl) (fun _ _ _ h => h) (by rfl) ?_ (by assumption) ?_
        rotate_left
        · (intro w hSw; (try dsimp only at hSw); go_simp; try with_reducible rfl)
        try simp only [Act.put, List.setIfInBounds_toArray, List.set_cons_zero, List.set_cons_succ]
        refine held_take (v := ?_) 4 rfl (by kernel_rfl) (by kernel_rfl) (by kernel_rfl) (fun _ _ _ h => h) (by rfl) ?_ (by assumption) ?_
        rotate_left
        · (intro w hSw; (try dsimp only at hSw); go_simp; try with_reducible rfl)
        try simp only [Act.put, List.setIfInBounds_toArray, List.set_cons_zero, List.set_cons_succ]
        refine held_take (v := ?_) 5 rfl (by kernel_rfl) (by kernel_rfl) (by kernel_rfl) (fun _ _ _ h => h) (by rfl) ?_ (by assumption) ?_
        rotate_left
        · (intro w hSw; (try dsimp only at hSw); go_simp; try with_reducible rfl)
        try simp only [Act.put, List.setIfInBounds_toArray, List.set_cons_zero, List.set_cons_succ]
        refine held_take (v := ?_) 6 rfl (by kernel_rfl) (by kernel_rfl) (by kernel_rfl) (fun _ _ _ h => h) (by rfl) ?_ (by assumption) ?_
        rotate_left
        · (intro w hSw; (try dsimp only at hSw); go_simp; try with_reducible rfl)
        try simp only [Act.put, List.setIfInBounds_toArray, List.set_cons_zero, List.set_cons_succ]
        refine held_take (v := ?_) 7 rfl (by kernel_rfl) (by kernel_rfl) (by kernel_rfl) (fun _ _ _ h => h) (by rfl) ?_ (by assumption) ?_
        rotate_left
        · (intro w hSw; (try dsimp only at hSw); go_simp; try with_reducible rfl)
        try simp only [Act.put, List.setIfInBounds_toArray, List.set_cons_zero, List.set_cons_succ]
        refine held_take (v := ?_) 8 rfl (by kernel_rfl) (by kernel_rfl) (by kernel_rfl) (fun _ _ _ h => h) (by rfl) ?_ (by assumption) ?_
        rotate_left
        · (intro w hSw; (try dsimp only at hSw); go_simp; try with_reducible rfl)
        try simp only [Act.put, List.setIfInBounds_toArray, List.set_cons_zero, List.set_cons_succ]
        refine held_call 9 (by kernel_rfl) rfl (fun K hK => ?_)
        go_simp
        go_at_fn gf; refine (HC.out.1 _ (grownBy_drewN hgr 1)).mono ?_; rintro e w3 ⟨rfl, hb3d⟩; have hb3 : Below wr.heap.size wr w3 := undrew hb3d; clear hb3d
        try (go_wp2_with fail)
        refine hK.out _ _ ?_ (fun hHeld1 => ?_)
        · first | trivial | ((try dsimp only); (exact ⟨(HC.out.2.2.2.2.2.fresh hb3).cell_int HC.out.2.2.1, (HC.out.2.2.2.2.2.fresh hb3).cell_int HC.out.2.2.2.1⟩))
        clear hK K hHeld0
        try simp only [Act.put, List.setIfInBounds_toArray, List.set_cons_zero, List.set_cons_succ]
        refine held_take (v := ?_) 10 rfl (by kernel_rfl) (by kernel_rfl) (by kernel_rfl) (fun _ _ _ h => h) (by rfl) ?_ (by assumption) ?_
        rotate_left
        · (intro w hSw; (try dsimp only at hSw); go_simp; try with_reducible rfl)
        try simp only [Act.put, List.setIfInBounds_toArray, List.set_cons_zero, List.set_cons_succ]
        refine wpAnyH_done (by kernel_rfl) ?_ _
        go_wp2_with fail
        go_roundg (j - (h + 1))
        case measure => omega
        case rel => exact ⟨h + 1, j, by omega, by omega, hjb, rfl, by go_num, rfl, ⟨⟨.inr ⟨t, HC.out.2.2.1, HC.out.2.1.1 hneg⟩, HC.out.2.2.2.2.1.2⟩, HC.out.2.2.2.2.2.fresh hb3⟩, hgr.trans (grownBy_below _ hb3)⟩
      · have hnd : decide (cv < 0) = false := by simpa using hneg
        go_wp2_with fail
        refine wp_region_held_drew (S := (fun w' => w'.cell? ⟨g, h, none⟩ = some (.int .i64 t) ∧ w'.cell? ⟨g, a, none⟩ = some (.int .i64 x))) (by kernel_rfl) ?_ (fun hHeld0 => ?_)
        · first | trivial | ((try dsimp only); (exact ⟨ct, cx⟩))
        refine held_take (v := ?_) 0 rfl (by kernel_rfl) (by kernel_rfl) (by kernel_rfl) (fun _ _ _ h => h) (by rfl) ?_ (by assumption) ?_
        rotate_left
        · (intro w hSw; (try dsimp only at hSw); go_simp; try with_reducible rfl)
        try simp only [Act.put, List.setIfInBounds_toArray, List.set_cons_zero, List.set_cons_succ]
        refine held_take (v := ?_) 1 rfl (by kernel_rfl) (by kernel_rfl) (by kernel_rfl) (fun _ _ _ h => h) (by rfl) ?_ (by assumption) ?_
        rotate_left
        · (intro w hSw; (try dsimp only at hSw); go_simp; try with_reducible rfl)
        try simp only [Act.put, List.setIfInBounds_toArray, List.set_cons_zero, List.set_cons_succ]
        refine held_take (v := ?_) 2 rfl (by kernel_rfl) (by kernel_rfl) (by kernel_rfl) (fun _ _ _ h => h) (by rfl) ?_ (by assumption) ?_
        rotate_left
        · (intro w hSw; (try dsimp only at hSw); go_simp; try with_reducible rfl)
        try simp only [Act.put, List.setIfInBounds_toArray, List.set_cons_zero, List.set_cons_succ]
        refine held_take (v := ?_) 3 rfl (by kernel_rfl) (by kernel_rfl) (by kernel_rfl) (fun _ _ _ h => h) (by rfl) ?_ (by assumption) ?_
        rotate_left
        · (intro w hSw; (try dsimp only at hSw); go_simp; try with_reducible rfl)
        try simp only [Act.put, List.setIfInBounds_toArray, List.set_cons_zero, List.set_cons_succ]
        refine held_take (v := ?_) 4 rfl (by kernel_rfl) (by kernel_rfl) (by kernel_rfl) (fun _ _ _ h => h) (by rfl) ?_ (by assumption) ?_
        rotate_left
        · (intro w hSw; (try dsimp only at hSw); go_simp; try with_reducible rfl)
        try simp only [Act.put, List.setIfInBounds_toArray, List.set_cons_zero, List.set_cons_succ]
        refine held_take (v := ?_) 5 rfl (by kernel_rfl) (by kernel_rfl) (by kernel_rfl) (fun _ _ _ h => h) (by rfl) ?_ (by assumption) ?_
        rotate_left
        · (intro w hSw; (try dsimp only at hSw); go_simp; try with_reducible rfl)
        try simp only [Act.put, List.setIfInBounds_toArray, List.set_cons_zero, List.set_cons_succ]
        refine held_take (v := ?_) 6 rfl (by kernel_rfl) (by kernel_rfl) (by kernel_rfl) (fun _ _ _ h => h) (by rfl) ?_ (by assumption) ?_
        rotate_left
        · (intro w hSw; (try dsimp only at hSw); go_simp; try with_reducible rfl)
        try simp only [Act.put, List.setIfInBounds_toArray, List.set_cons_zero, List.set_cons_succ]
        refine held_take (v := ?_) 7 rfl (by kernel_rfl) (by kernel_rfl) (by kernel_rfl) (fun _ _ _ h => h) (by rfl) ?_ (by assumption) ?_
        rotate_left
        · (intro w hSw; (try dsimp only at hSw); go_simp; try with_reducible rfl)
        try simp only [Act.put, List.setIfInBounds_toArray, List.set_cons_zero, List.set_cons_succ]
        refine held_take (v := ?_) 8 rfl (by kernel_rfl) (by kernel_rfl) (by kernel_rfl) (fun _ _ _ h => h) (by rfl) ?_ (by assumption) ?_
        rotate_left
        · (intro w hSw; (try dsimp only at hSw); go_simp; try with_reducible rfl)
        try simp only [Act.put, List.setIfInBounds_toArray, List.set_cons_zero, List.set_cons_succ]
        refine held_call 9 (by kernel_rfl) rfl (fun K hK => ?_)
        go_simp
        go_at_fn gf; refine (HC.out.1 _ (grownBy_drewN hgr 1)).mono ?_; rintro e w3 ⟨rfl, hb3d⟩; have hb3 : Below wr.heap.size wr w3 := undrew hb3d; clear hb3d
        try (go_wp2_with fail)
        refine hK.out _ _ ?_ (fun hHeld1 => ?_)
        · first | trivial | ((try dsimp only); (exact ⟨(HC.out.2.2.2.2.2.fresh hb3).cell_int HC.out.2.2.1, (HC.out.2.2.2.2.2.fresh hb3).cell_int HC.out.2.2.2.1⟩))
        clear hK K hHeld0
        try simp only [Act.put, List.setIfInBounds_toArray, List.set_cons_zero, List.set_cons_succ]
        refine held_take (v := ?_) 10 rfl (by kernel_rfl) (by kernel_rfl) (by kernel_rfl) (fun _ _ _ h => h) (by rfl) ?_ (by assumption) ?_
        rotate_left
        · (intro w hSw; (try dsimp only at hSw); go_simp; try with_reducible rfl)
        try simp only [Act.put, List.setIfInBounds_toArray, List.set_cons_zero, List.set_cons_succ]
        refine wpAnyH_done (by kernel_rfl) ?_ _
        go_wp2_with fail
        go_roundg (h - i)
        case measure => omega
        case rel => exact ⟨i, h, hai, hih, by omega, rfl, rfl, rfl, ⟨⟨HC.out.2.2.2.2.1.1, .inr ⟨t, HC.out.2.2.1, fun h' => by have := HC.out.2.1.2 h'; omega⟩⟩, HC.out.2.2.2.2.2.fresh hb3⟩, hgr.trans (grownBy_below _ hb3)⟩
    · obtain rfl : i = j := by omega
      obtain ⟨⟨hs1, hs2⟩, hown⟩ := hkeep.out
      obtain ⟨hLq, ha, hb, hNq, hl, hlx, hly⟩ := H.out.2
      obtain ⟨Y1, Y2, rfl, hY1⟩ := cut_at (l := Y) (k := i - (a + 1)) (by omega)
      have hYr := HY.out.1
      have hput : (Y1 ++ x :: Y2).Pairwise (Srt.R f) := by
        have el : l = (P ++ [x]) ++ Y1 ++ (Y2 ++ S) := by rw [← hl]; simp
        have l1 : ((P ++ [x]) ++ Y1).length = i := by simp; omega
        refine Srt.put_in_left hYr (fun y hy => HY.out.2 y (by simp [hy])) ?_ ?_
        · rcases hs1 with hs1 | ⟨t, ht, hlt'⟩
          · exact .inl (List.eq_nil_of_length_eq_zero (by omega))
          · by_cases h0 : Y1.length = 0
            · exact .inl (List.eq_nil_of_length_eq_zero h0)
            · refine .inr ⟨t, ?_, hlt'⟩
              rw [el, List.append_assoc, List.getElem?_append_right (by simp; omega)] at ht
              refine last_of (B := Y2 ++ S) (by omega) ?_
              rw [← ht]; congr 1; simp; omega
        · rcases hs2 with hs2 | ⟨t, ht, hlt'⟩
          · exact .inl (List.eq_nil_of_length_eq_zero (by simp at hb; omega))
          · by_cases h0 : Y2.length = 0
            · exact .inl (List.eq_nil_of_length_eq_zero h0)
            · refine .inr ⟨t, ?_, by omega⟩
              rw [el, ← l1] at ht
              have := head_of ht
              rw [List.head?_append] at this
              cases Y2 with
              | nil => simp at h0
              | cons u Y2 => simpa using this
      have HP := Lib.hid (And.intro hput (And.intro ha (And.intro hb (And.intro hY1 (And.intro hown hl))))); clear hput hs1 hs2 hkeep hown ha hb hLq hNq hl hlx hly hYr hY1
      have hi1 : IntKind.i64.wrap ((i : Int) - 1) = (i : Int) - 1 := IntWalk.i64_in _ (by omega)
      have HI := Lib.hid hlt; clear hlt
      go_wp2_with fail
      go_loopg [13] (i - 1 - a) (fun gk kv wr => ∃ (k : Nat) (T1 T2 : List Int), a ≤ k ∧ k + 1 ≤ i ∧ gk = i - 1 - k ∧ kv = .int .i64 k ∧ Hid (Y1 = T1 ++ T2 ∧ a + T1.length = k ∧ Own wr base 3 (some ⟨g, 0, none⟩) c (P ++ T1 ++ x :: (T2 ++ (Y2 ++ S)))) ∧ w.grownBy wr (some g))
      case atStart => exact ⟨a, [], Y1, Nat.le_refl _, by omega, rfl, rfl, ⟨rfl, rfl, by have := HP.out.2.2.2.2.1; rw [← HP.out.2.2.2.2.2] at this; simpa using this⟩, hgr⟩
      case round =>
        obtain ⟨k, T1, T2, hak, hki, rfl, rfl, hk2, hgr2⟩ := hrel
        by_cases hk1 : k + 1 < i
        · obtain ⟨hT, hTl, ho⟩ := hk2.out
          obtain ⟨t, T2', rfl⟩ : ∃ t T', T2 = t :: T' := by
            cases T2 with
            | nil => exfalso; have := HP.out.2.2.2.1; rw [hT] at this; simp at this; omega
            | cons t T' => exact ⟨t, T', rfl⟩
          have lA : (P ++ T1).length = k := by have := HP.out.2.1; simp; omega
          have lB : (P ++ T1).length + 1 + ([] : List Int).length = k + 1 := by rw [lA]; simp
          have e1 : P ++ T1 ++ x :: (t :: T2' ++ (Y2 ++ S)) = (P ++ T1) ++ x :: ([] ++ t :: (T2' ++ (Y2 ++ S))) := by simp
          rw [e1] at ho
          have gx : ((P ++ T1) ++ x :: ([] ++ t :: (T2' ++ (Y2 ++ S))))[k]? = some x := by rw [← lA]; exact Srt.get_mid _ _ _
          have gt : ((P ++ T1) ++ x :: ([] ++ t :: (T2' ++ (Y2 ++ S))))[k + 1]? = some t := by
            have := Srt.get_mid (P ++ T1 ++ [x]) (T2' ++ (Y2 ++ S)) t
            rw [show (P ++ T1 ++ [x]).length = k + 1 by rw [List.length_append, lA]; rfl] at this
            simpa using this
          have cx := ho.cell_int gx
          have ct := ho.cell_int gt
          have z0 := ho.frozen (g := g) rfl k
          have hkl := (List.getElem?_eq_some_iff.1 gx).1
          have ho2 := ho.set_int t hkl
          have z1 := ho2.frozen (g := g) rfl (k + 1)
          have ct2 := ho2.cell_int (i := k + 1) (b := t) (by rw [List.getElem?_set_ne (by omega)]; exact gt)
          have hsw := ho.swap2_ gx gt
          have hsp := Srt.swap2_parts (P ++ T1) [] (T2' ++ (Y2 ++ S)) x t
          rw [lB, lA] at hsp
          rw [hsp] at hsw
          have hgw : w.grownBy ((wr.setCell ⟨g, k, none⟩ (.int .i64 t)).setCell ⟨g, k + 1, none⟩ (.int .i64 x)) (some g) := (hgr2.trans (grownBy_setCell _ _ _ _)).trans (grownBy_setCell _ _ _ _)
          have HS := Lib.hid (And.intro hsw (And.intro hgw (And.intro hT hTl))); clear hsw hgw ho ho2 hsp hkl hT hTl gx gt e1 lA lB hk2
          have hkN : k + 1 < N := by omega
          have hk3 : IntKind.i64.wrap ((k : Int) + 1) = ((k + 1 : Nat) : Int) := by rw [IntWalk.i64_in _ (by omega)]; omega
          have hki' : (k : Int) < (i : Int) - 1 := by omega
          obtain ⟨k1, hkk⟩ : ∃ k1, k + 1 = k1 := ⟨_, rfl⟩
          rw [hkk] at hk3 HS ct ct2 z1 hkN
          go_wp2_with fail
          go_region
          go_wp2_with fail
          go_roundg (i - 1 - (k + 1))
          case measure => omega
          case rel => exact ⟨k + 1, T1 ++ [t], T2', by omega, by omega, rfl, by go_num, ⟨by rw [HS.out.2.2.1]; simp, by have := HS.out.2.2.2; simp; omega, by have := HS.out.1.drew; simpa using this⟩, grownBy_drewN HS.out.2.1 1⟩
        · obtain rfl : i = k + 1 := by omega
          have hki' : ¬ (k : Int) < ((k + 1 : Nat) : Int) - 1 := by omega
          obtain ⟨hT, hTl, ho⟩ := hk2.out
          have hT2 : T2 = [] := List.eq_nil_of_length_eq_zero (by have := HP.out.2.2.2.1; rw [hT] at this; simp at this; omega)
          subst hT2
          have e : Y1 = T1 := by rw [hT]; simp
          subst e
          have ho' : Own wr base 3 (some ⟨g, 0, none⟩) c (P ++ (Y1 ++ x :: Y2) ++ S) := by simpa using ho
          have HS := Lib.hid ho'; clear ho ho' hk2 hT hTl
          go_wp2_with fail
          refine bodyPost_ret (results_none rfl _ _ _) rfl ?_
          exact ⟨rfl, ⟨Y1 ++ x :: Y2, List.perm_middle, HP.out.1, by simpa using HS.out⟩, hgr2⟩

end Go.Proofs.Ytljdnadejmkaeaa
