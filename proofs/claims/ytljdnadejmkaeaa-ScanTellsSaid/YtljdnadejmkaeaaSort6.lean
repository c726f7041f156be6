/- slices.SortStableFunc at ints: two runs become one. -/
import Derived.Test.YtljdnadejmkaeaaSort5
import Derived.Deep.CutRange
namespace Go.Proofs.Ytljdnadejmkaeaa
open Go.RowKit

attribute [local go_sem ↓] Go.wp_at_zero Go.wp_at_succ

theorem CmpQ.grown {P : Program} {g gf : Nat} {lb : Array Value} {f : Int → Int} {l : List Int} {w w' : World} (h : CmpQ P gf lb f l (some g) w) (hg : w.grownBy w' (some g)) : CmpQ P gf lb f l (some g) w' :=
  fun W x y hx hy hW => h W x y hx hy (hg.trans hW)

/-- the bounds of the search for the cut -/
def CutB (a m b n s0 r0 : Nat) : Prop := a ≤ s0 ∧ s0 ≤ r0 ∧ r0 ≤ m ∧ n ≤ b + s0 ∧ m + r0 ≤ n ∧ (s0 = a ∨ n = b + s0) ∧ (r0 = m ∨ n = m + r0)
/-- what the search for the cut keeps -/
def CutSt (f : Int → Int) (l : List Int) (n s0 r0 s r : Nat) : Prop :=
  (s = s0 ∨ ∃ u t, l[s - 1]? = some u ∧ l[n - s]? = some t ∧ f u ≤ f t) ∧ (r = r0 ∨ ∃ u t, l[r]? = some u ∧ l[n - 1 - r]? = some t ∧ f t < f u)

theorem cut_cross {f : Int → Int} {a m b n s0 r0 s : Nat} {P X Y S : List Int} (hP : P.length = a) (hX : a + X.length = m) (hY : m + Y.length = b) (hB : CutB a m b n s0 r0) (h1 : s0 ≤ s) (h2 : s ≤ r0) (hst : CutSt f (P ++ X ++ Y ++ S) n s0 r0 s s)
    (hXs : X.Pairwise (Srt.R f)) (hYs : Y.Pairwise (Srt.R f)) (hlt : ∀ x ∈ X, ∀ y ∈ Y, x < y) :
    ∃ X1 X2 Y1 Y2, X = X1 ++ X2 ∧ Y = Y1 ++ Y2 ∧ a + X1.length = s ∧ m + Y1.length = n - s ∧ ∀ z ∈ X1 ++ Y1, ∀ z' ∈ X2 ++ Y2, Srt.R f z z' := by
  obtain ⟨b1, b2, b3, b4, b5, b6, b7⟩ := hB
  obtain ⟨X1, X2, rfl, hX1⟩ := cut_at (l := X) (k := s - a) (by omega)
  obtain ⟨Y1, Y2, rfl, hY1⟩ := cut_at (l := Y) (k := n - s - m) (by omega)
  rw [List.length_append] at hX hY
  have el : P ++ (X1 ++ X2) ++ (Y1 ++ Y2) ++ S = (P ++ X1 ++ X2) ++ (Y1 ++ (Y2 ++ S)) := by simp
  have el2 : P ++ (X1 ++ X2) ++ (Y1 ++ Y2) ++ S = P ++ (X1 ++ (X2 ++ (Y1 ++ Y2 ++ S))) := by simp
  have gX : ∀ k, a ≤ k → (P ++ (X1 ++ X2) ++ (Y1 ++ Y2) ++ S)[k]? = (X1 ++ (X2 ++ (Y1 ++ Y2 ++ S)))[k - a]? := by
    intro k hk; rw [el2, List.getElem?_append_right (by omega), hP]
  have gY : ∀ k, m ≤ k → (P ++ (X1 ++ X2) ++ (Y1 ++ Y2) ++ S)[k]? = (Y1 ++ (Y2 ++ S))[k - m]? := by
    intro k hk; rw [el, List.getElem?_append_right (by simp; omega)]; congr 1; simp; omega
  refine ⟨X1, X2, Y1, Y2, rfl, rfl, by omega, by omega, Srt.cross hXs hYs hlt ?_ ?_⟩
  · by_cases h0 : X1.length = 0
    · exact .inl (List.eq_nil_of_length_eq_zero h0)
    by_cases h0' : Y2.length = 0
    · exact .inr (.inl (List.eq_nil_of_length_eq_zero h0'))
    rcases hst.1 with hs | ⟨u, t, hu, ht, hle⟩
    · exfalso; omega
    · refine .inr (.inr ⟨u, t, ?_, ?_, hle⟩)
      · rw [gX _ (by omega)] at hu
        exact last_of (by omega) (by rw [← hu]; congr 1; omega)
      · rw [gY _ (by omega), show n - s - m = Y1.length by omega] at ht
        have := head_of ht
        cases Y2 with
        | nil => simp at h0'
        | cons z Y2 => simpa using this
  · by_cases h0 : X2.length = 0
    · exact .inl (List.eq_nil_of_length_eq_zero h0)
    by_cases h0' : Y1.length = 0
    · exact .inr (.inl (List.eq_nil_of_length_eq_zero h0'))
    rcases hst.2 with hs | ⟨u, t, hu, ht, hle⟩
    · exfalso; omega
    · refine .inr (.inr ⟨t, u, ?_, ?_, hle⟩)
      · rw [gY _ (by omega)] at ht
        exact last_of (by omega) (by rw [← ht]; congr 1; omega)
      · rw [gX _ (by omega), show s - a = X1.length by omega] at hu
        have := head_of hu
        cases X2 with
        | nil => simp at h0
        | cons z X2 => simpa using this

/-- what symMerge is to do, to runs of so many at most -/
def SymOk (base g c N gf : Nat) (lb : Array Value) (f : Int → Int) (L : List Int) (n : Nat) : Prop :=
  ∀ (a m b : Nat) (P X Y S : List Int) (w : World), X.length + Y.length ≤ n → Own w base 3 (some ⟨g, 0, none⟩) c (P ++ X ++ Y ++ S) → (P ++ X ++ Y ++ S).length = N → P.length = a → a + X.length = m → m + Y.length = b → 0 < X.length → 0 < Y.length →
    X.Pairwise (Srt.R f) → Y.Pairwise (Srt.R f) → (∀ x ∈ X, ∀ y ∈ Y, x < y) → (∀ z ∈ X ++ Y, z ∈ L) → CmpQ Try.prog gf lb f L (some g) w →
    Calls Try.prog 144 #[.slice (some ⟨g, 0, none⟩) N c, .int .i64 a, .int .i64 m, .int .i64 b, .func (.func gf) #[] lb] w fun e w' => e = .returned (.tuple #[]) ∧ (∃ Z, Z.Perm (X ++ Y) ∧ Z.Pairwise (Srt.R f) ∧ Own w' base 3 (some ⟨g, 0, none⟩) c (P ++ Z ++ S)) ∧ w.grownBy w' (some g)

set_option maxHeartbeats 3200000 in
set_option maxRecDepth 100000 in
theorem symGen (base g c N gf : Nat) (lb : Array Value) (f : Int → Int) (L : List Int) (n0 : Nat) (ih : SymOk base g c N gf lb f L n0) (hN5 : N ≤ 100000) (eg : ∀ args w, (callFunc gf args).run Try.prog w = .ok (.enter gf args) w)
    (a m b : Nat) (P X Y S : List Int) (w : World) (hn : X.length + Y.length ≤ n0 + 1) (h : Own w base 3 (some ⟨g, 0, none⟩) c (P ++ X ++ Y ++ S)) (hN : (P ++ X ++ Y ++ S).length = N) (ha : P.length = a) (hm : a + X.length = m) (hb : m + Y.length = b)
    (hX1 : 1 < X.length) (hY1 : 1 < Y.length) (hXs : X.Pairwise (Srt.R f)) (hYs : Y.Pairwise (Srt.R f)) (hlt : ∀ x ∈ X, ∀ y ∈ Y, x < y) (hL : ∀ z ∈ X ++ Y, z ∈ L) (hf : CmpQ Try.prog gf lb f L (some g) w) :
    Calls Try.prog 144 #[.slice (some ⟨g, 0, none⟩) N c, .int .i64 a, .int .i64 m, .int .i64 b, .func (.func gf) #[] lb] w fun e w' => e = .returned (.tuple #[]) ∧ (∃ Z, Z.Perm (X ++ Y) ∧ Z.Pairwise (Srt.R f) ∧ Own w' base 3 (some ⟨g, 0, none⟩) c (P ++ Z ++ S)) ∧ w.grownBy w' (some g) := by
  have hbN : b ≤ N := by rw [← hN]; simp; omega
  obtain ⟨mid, hmid⟩ : ∃ x, (a + b) / 2 = x := ⟨_, rfl⟩
  have hmid2 : ((a : Int) + (b : Int)) / 2 = (mid : Int) := by omega
  obtain ⟨n, hnn⟩ : ∃ x, mid + m = x := ⟨_, rfl⟩
  have hwn : IntKind.i64.wrap ((mid : Int) + (m : Int)) = (n : Int) := by rw [IntWalk.i64_in _ (by omega)]; omega
  have hne1 : ((m : Int) - (a : Int) == 1) = false := by simp; omega
  have hne2 : ((b : Int) - (m : Int) == 1) = false := by simp; omega
  have hw1 : IntKind.i64.wrap ((m : Int) - (a : Int)) = (m : Int) - (a : Int) := IntWalk.i64_in _ (by omega)
  have hw2 : IntKind.i64.wrap ((b : Int) - (m : Int)) = (b : Int) - (m : Int) := IntWalk.i64_in _ (by omega)
  have hab : a < m := by omega
  have hmb : m < b := by omega
  have hmd : a ≤ mid ∧ mid < b ∧ 2 * mid ≤ a + b ∧ a + b ≤ 2 * mid + 1 := by omega
  have H := Lib.hid (And.intro h (And.intro hN (And.intro ha (And.intro hm (And.intro hb (And.intro hX1 (And.intro hY1 hn))))))); clear h hN ha hm hb hX1 hY1 hn
  have HY := Lib.hid (And.intro hXs (And.intro hYs (And.intro hlt hL))); clear hXs hYs hlt hL
  have HF := Lib.hid hf; clear hf
  have HI := Lib.hid ih; clear ih
  have HMD := Lib.hid (And.intro hmd (And.intro hmid hnn)); clear hmd hmid hnn
  go_enter Try.func144, Try.ntmps144
  go_upto_if 140 with fail
  go_cut [20, 21] from 141 to 146 (fun sv rv W => ∃ s0 r0 : Nat, sv = .int .i64 s0 ∧ rv = .int .i64 r0 ∧ Hid (CutB a m b n s0 r0) ∧ W = w)
  case first =>
    obtain ⟨⟨m1, m2, m3, m4⟩, -, hnn⟩ := HMD.out
    by_cases hc : mid < m
    · have hwb : IntKind.i64.wrap ((n : Int) - (b : Int)) = ((n - b : Nat) : Int) := by rw [IntWalk.i64_in _ (by omega)]; omega
      have hB : CutB a m b n (n - b) mid := by unfold CutB; omega
      have HB := Lib.hid hB; clear hB m1 m2 m3 m4 hnn
      go_wp2_with fail
      go_meet
      exact ⟨n - b, mid, rfl, rfl, HB.out, rfl⟩
    · have hB : CutB a m b n a m := by unfold CutB; omega
      have HB := Lib.hid hB; clear hB m1 m2 m3 m4 hnn
      go_wp2_with fail
      go_meet
      exact ⟨a, m, rfl, rfl, HB.out, rfl⟩
  case rest =>
    obtain ⟨s0, r0, rfl, rfl, hB, rfl⟩ := hcut
    clear hne1 hne2 hw1 hw2 hwn hmid2
    have hnN : n ≤ 2 * N := by have := HMD.out; omega
    have hn1 : 1 ≤ n := by have := HMD.out; omega
    have hwp : IntKind.i64.wrap ((n : Int) - 1) = ((n - 1 : Nat) : Int) := by rw [IntWalk.i64_in _ (by omega)]; omega
    have hr0N : r0 ≤ N := by have := hB.out; unfold CutB at this; omega
    obtain ⟨p, hp⟩ : ∃ p, n - 1 = p := ⟨_, rfl⟩
    rw [hp] at hwp
    have HP := Lib.hid hp; clear hp
    obtain ⟨l, hl⟩ : ∃ l, P ++ X ++ Y ++ S = l := ⟨_, rfl⟩
    have HL := Lib.hid hl; clear hl
    go_wp2_with fail
    go_loopg [20, 21, 23] (r0 - s0) (fun gk iv jv hv wr => ∃ (i j : Nat), s0 ≤ i ∧ i ≤ j ∧ j ≤ r0 ∧ gk = j - i ∧ iv = .int .i64 i ∧ jv = .int .i64 j ∧ Hid (CutSt f l n s0 r0 i j ∧ Own wr base 3 (some ⟨g, 0, none⟩) c l) ∧ wc.grownBy wr (some g))
    case atStart => exact ⟨s0, r0, Nat.le_refl _, hB.out.2.1, Nat.le_refl _, rfl, rfl, rfl, ⟨⟨.inl rfl, .inl rfl⟩, by rw [← HL.out]; exact H.out.1⟩, World.grownBy.refl wc _⟩
    case round =>
      obtain ⟨i, j, hai, hij, hjb, rfl, rfl, rfl, hkeep, hgr⟩ := hrel
      clear hwp
      by_cases hlt : i < j
      · obtain ⟨h, hh⟩ : ∃ h : Nat, (i + j) / 2 = h := ⟨_, rfl⟩
        have hih : i ≤ h := by omega
        have hhj : h < j := by omega
        have hh2 : ((i : Int) + (j : Int)) / 2 = (h : Int) := by omega
        clear hh
        obtain ⟨hst, hown⟩ := hkeep.out
        have hll := HL.out
        obtain ⟨hLN, hPa, hXm, hYb, -, -, -⟩ := H.out.2
        rw [hll] at hLN
        have hBo := hB.out
        unfold CutB at hBo
        have hpo := HP.out
        have hhm : h < m := by omega
        have hph : h ≤ p := by omega
        have hqm : m ≤ p - h := by omega
        have hqb : p - h < b := by omega
        obtain ⟨q, hq⟩ : ∃ q, p - h = q := ⟨_, rfl⟩
        have hwq : IntKind.i64.wrap ((p : Int) - (h : Int)) = (q : Int) := by rw [IntWalk.i64_in _ (by omega)]; omega
        rw [hq] at hqm hqb
        obtain ⟨u, gu⟩ := get_some (l := l) (i := h) (by omega)
        obtain ⟨t, gt⟩ := get_some (l := l) (i := q) (by omega)
        have huX : u ∈ X := by
          have h3 := gu
          rw [← hll, List.append_assoc, List.append_assoc, List.getElem?_append_right (by omega), List.getElem?_append_left (by omega)] at h3
          exact List.mem_of_getElem? h3
        have htY : t ∈ Y := by
          have h3 := gt
          rw [← hll, List.append_assoc, List.getElem?_append_right (by simp; omega), List.getElem?_append_left (by simp; omega)] at h3
          exact List.mem_of_getElem? h3
        have cu := hown.cell_int gu
        have ct := hown.cell_int gt
        have hcall := fun W hg => HF.out W t u (HY.out.2.2.2 t (by simp [htY])) (HY.out.2.2.2 u (by simp [huX])) hg
        obtain ⟨cv, hcv⟩ : ∃ z, Srt.cmpI (f t) (f u) = z := ⟨_, rfl⟩
        rw [hcv] at hcall
        have hlt0 : cv < 0 ↔ f t < f u := by rw [← hcv]; exact Srt.cmpI_neg _ _
        have hqn : n - 1 - h = q := by omega
        have hqn2 : n - (h + 1) = q := by omega
        have HC := Lib.hid (And.intro hcall (And.intro hlt0 (And.intro gu (And.intro gt (And.intro hst (And.intro hown (And.intro hqn hqn2))))))); clear hcall hlt0 hcv htY huX gt gu hst hown hkeep hll hLN hPa hXm hYb hBo hpo hqn hqn2 hq
        have hhN : h < N := by omega
        have hqN : q < N := by omega
        have hh1 : IntKind.i64.wrap ((h : Int) + 1) = (h : Int) + 1 := IntWalk.i64_in _ (by omega)
        by_cases hneg : cv < 0
        · have hnd : decide (cv < 0) = true := by simpa using hneg
          go_wp2_with fail
          refine wp_region_held_drew (S := (fun w' => w'.cell? ⟨g, h, none⟩ = some (.int .i64 u) ∧ w'.cell? ⟨g, q, none⟩ = some (.int .i64 t))) (by kernel_rfl) ?_ (fun hHeld0 => ?_)
          · first | trivial | ((try dsimp only); (exact ⟨cu, ct⟩))
          refine held_take (v := ?_) 0 rfl (by kernel_rfl) (by kernel_rfl) (by kernel_rfl) (fun _ _ _ h => h) (by rfl) ?_ (by assumption) ?_
          rotate_left
          · (intro w hSw; (try dsimp only at hSw); go_simp; try with_reducible rfl)
          try simp only [Act.put, List.setIfInBounds_toArray, List.set_cons_zero, List.set_cons_succ]
          refine held_take (v := ?_) 1 rfl (by kernel_rfl) (by kernel_rfl) (by kernel_rfl) (fun _ _ _ h => h) (by rfl) ?_ (by assumption) ?_
          rotate_left
          · (intro w hSw; (try dsimp only at hSw); go_simp; try with_reducible rfl)
          try simp only [Act.put, List.setIfInBounds_toArray, List.set_cons_zero, List.set_cons_succ]
          refine held_take (v := ?_) 2 rfl (by kernel_rfl) (by kernel_rfl) (by kernel_rfl) (fun _ _ _ h => h) (by rfl) ?_ (by assumption) ?_
          rotate_left
          · (intro w hSw; (try dsimp only at hSw); go_simp; try with_reducible rfl)
          try simp only [Act.put, List.setIfInBounds_toArray, List.set_cons_zero, List.set_cons_succ]
          refine held_take (v := ?_) 3 rfl (by kernel_rfl) (by kernel_rfl) (by kernel_rfl) (fun _ _ _ h => h) (by rfl) ?_ (by assumption) ?_
          rotate_left
          · (intro w hSw; (try dsimp only at hSw); go_simp; try with_reducible rfl)
          try simp only [Act.put, List.setIfInBounds_toArray, List.set_cons_zero, List.set_cons_succ]
          refine held_take (v := ?_) 4 rfl (by kernel_rfl) (by kernel_rfl) (by kernel_rfl) (fun _ _ _ h => h) (by rfl) ?_ (by assumption) ?_
          rotate_left
          · (intro w hSw; (try dsimp only at hSw); go_simp; try with_reducible rfl)
          try simp only [Act.put, List.setIfInBounds_toArray, List.set_cons_zero, List.set_cons_succ]
          refine held_take (v := ?_) 5 rfl (by kernel_rfl) (by kernel_rfl) (by kernel_rfl) (fun _ _ _ h => h) (by rfl) ?_ (by assumption) ?_
          rotate_left
          · (intro w hSw; (try dsimp only at hSw); go_simp; try with_reducible rfl)
          try simp only [Act.put, List.setIfInBounds_toArray, List.set_cons_zero, List.set_cons_succ]
          refine held_take (v := ?_) 6 rfl (by kernel_rfl) (by kernel_rfl) (by kernel_rfl) (fun _ _ _ h => h) (by rfl) ?_ (by assumption) ?_
          rotate_left
          · (intro w hSw; (try dsimp only at hSw); go_simp; try with_reducible rfl)
          try simp only [Act.put, List.setIfInBounds_toArray, List.set_cons_zero, List.set_cons_succ]
          refine held_take (v := ?_) 7 rfl (by kernel_rfl) (by kernel_rfl) (by kernel_rfl) (fun _ _ _ h => h) (by rfl) ?_ (by assumption) ?_
          rotate_left
          · (intro w hSw; (try dsimp only at hSw); go_simp; try with_reducible rfl)
          try simp only [Act.put, List.setIfInBounds_toArray, List.set_cons_zero, List.set_cons_succ]
          refine held_take (v := ?_) 8 rfl (by kernel_rfl) (by kernel_rfl) (by kernel_rfl) (fun _ _ _ h => h) (by rfl) ?_ (by assumption) ?_
          rotate_left
          · (intro w hSw; (try dsimp only at hSw); go_simp; try with_reducible rfl)
          try simp only [Act.put, List.setIfInBounds_toArray, List.set_cons_zero, List.set_cons_succ]
          refine held_take (v := ?_) 9 rfl (by kernel_rfl) (by kernel_rfl) (by kernel_rfl) (fun _ _ _ h => h) (by rfl) ?_ (by assumption) ?_
          rotate_left
          · (intro w hSw; (try dsimp only at hSw); go_simp; try with_reducible rfl)
          try simp only [Act.put, List.setIfInBounds_toArray, List.set_cons_zero, List.set_cons_succ]
          refine held_take (v := ?_) 10 rfl (by kernel_rfl) (by kernel_rfl) (by kernel_rfl) (fun _ _ _ h => h) (by rfl) ?_ (by assumption) ?_
          rotate_left
          · (intro w hSw; (try dsimp only at hSw); go_simp; try with_reducible rfl)
          try simp only [Act.put, List.setIfInBounds_toArray, List.set_cons_zero, List.set_cons_succ]
          refine held_call 11 (by kernel_rfl) rfl (fun K hK => ?_)
          go_simp
          go_at_fn gf; refine (HC.out.1 _ (grownBy_drewN hgr 1)).mono ?_; rintro e w3 ⟨rfl, hb3d⟩; have hb3 : Below wr.heap.size wr w3 := undrew hb3d; clear hb3d
          try (go_wp2_with fail)
          refine hK.out _ _ ?_ (fun hHeld1 => ?_)
          · first | trivial | ((try dsimp only); (exact ⟨(HC.out.2.2.2.2.2.1.fresh hb3).cell_int HC.out.2.2.1, (HC.out.2.2.2.2.2.1.fresh hb3).cell_int HC.out.2.2.2.1⟩))
          clear hK K hHeld0
          try simp only [Act.put, List.setIfInBounds_toArray, List.set_cons_zero, List.set_cons_succ]
          refine held_take (v := ?_) 12 rfl (by kernel_rfl) (by kernel_rfl) (by kernel_rfl) (fun _ _ _ h => h) (by rfl) ?_ (by assumption) ?_
          rotate_left
          · (intro w hSw; (try dsimp only at hSw); go_simp; try with_reducible rfl)
          try simp only [Act.put, List.setIfInBounds_toArray, List.set_cons_zero, List.set_cons_succ]
          refine held_take (v := ?_) 13 rfl (by kernel_rfl) (by kernel_rfl) (by kernel_rfl) (fun _ _ _ h => h) (by rfl) ?_ (by assumption) ?_
          rotate_left
          · (intro w hSw; (try dsimp only at hSw); go_simp; try with_reducible rfl)
          try simp only [Act.put, List.setIfInBounds_toArray, List.set_cons_zero, List.set_cons_succ]
          refine wpAnyH_done (by kernel_rfl) ?_ _
          go_wp2_with fail
          go_roundg (h - i)
          case measure => omega
          case rel => exact ⟨i, h, hai, hih, by omega, rfl, rfl, rfl, ⟨⟨HC.out.2.2.2.2.1.1, .inr ⟨u, t, HC.out.2.2.1, by rw [HC.out.2.2.2.2.2.2.1]; exact HC.out.2.2.2.1, HC.out.2.1.1 hneg⟩⟩, HC.out.2.2.2.2.2.1.fresh hb3⟩, hgr.trans (grownBy_below _ hb3)⟩
        · have hnd : decide (cv < 0) = false := by simpa using hneg
          go_wp2_with fail
          refine wp_region_held_drew (S := (fun w' => w'.cell? ⟨g, h, none⟩ = some (.int .i64 u) ∧ w'.cell? ⟨g, q, none⟩ = some (.int .i64 t))) (by kernel_rfl) ?_ (fun hHeld0 => ?_)
          · first | trivial | ((try dsimp only); (exact ⟨cu, ct⟩))
          refine held_take (v := ?_) 0 rfl (by kernel_rfl) (by kernel_rfl) (by kernel_rfl) (fun _ _ _ h => h) (by rfl) ?_ (by assumption) ?_
          rotate_left
          · (intro w hSw; (try dsimp only at hSw); go_simp; try with_reducible rfl)
          try simp only [Act.put, List.setIfInBounds_toArray, List.set_cons_zero, List.set_cons_succ]
          refine held_take (v := ?_) 1 rfl (by kernel_rfl) (by kernel_rfl) (by kernel_rfl) (fun _ _ _ h => h) (by rfl) ?_ (by assumption) ?_
          rotate_left
          · (intro w hSw; (try dsimp only at hSw); go_simp; try with_reducible rfl)
          try simp only [Act.put, List.setIfInBounds_toArray, List.set_cons_zero, List.set_cons_succ]
          refine held_take (v := ?_) 2 rfl (by kernel_rfl) (by kernel_rfl) (by kernel_rfl) (fun _ _ _ h => h) (by rfl) ?_ (by assumption) ?_
          rotate_left
          · (intro w hSw; (try dsimp only at hSw); go_simp; try with_reducible rfl)
          try simp only [Act.put, List.setIfInBounds_toArray, List.set_cons_zero, List.set_cons_succ]
          refine held_take (v := ?_) 3 rfl (by kernel_rfl) (by kernel_rfl) (by kernel_rfl) (fun _ _ _ h => h) (by rfl) ?_ (by assumption) ?_
          rotate_left
          · (intro w hSw; (try dsimp only at hSw); go_simp; try with_reducible rfl)
          try simp only [Act.put, List.setIfInBounds_toArray, List.set_cons_zero, List.set_cons_succ]
          refine held_take (v := ?_) 4 rfl (by kernel_rfl) (by kernel_rfl) (by kernel_rfl) (fun _ _ _ h => h) (by rfl) ?_ (by assumption) ?_
          rotate_left
          · (intro w hSw; (try dsimp only at hSw); go_simp; try with_reducible rfl)
          try simp only [Act.put, List.setIfInBounds_toArray, List.set_cons_zero, List.set_cons_succ]
          refine held_take (v := ?_) 5 rfl (by kernel_rfl) (by kernel_rfl) (by kernel_rfl) (fun _ _ _ h => h) (by rfl) ?_ (by assumption) ?_
          rotate_left
          · (intro w hSw; (try dsimp only at hSw); go_simp; try with_reducible rfl)
          try simp only [Act.put, List.setIfInBounds_toArray, List.set_cons_zero, List.set_cons_succ]
          refine held_take (v := ?_) 6 rfl (by kernel_rfl) (by kernel_rfl) (by kernel_rfl) (fun _ _ _ h => h) (by rfl) ?_ (by assumption) ?_
          rotate_left
          · (intro w hSw; (try dsimp only at hSw); go_simp; try with_reducible rfl)
          try simp only [Act.put, List.setIfInBounds_toArray, List.set_cons_zero, List.set_cons_succ]
          refine held_take (v := ?_) 7 rfl (by kernel_rfl) (by kernel_rfl) (by kernel_rfl) (fun _ _ _ h => h) (by rfl) ?_ (by assumption) ?_
          rotate_left
          · (intro w hSw; (try dsimp only at hSw); go_simp; try with_reducible rfl)
          try simp only [Act.put, List.setIfInBounds_toArray, List.set_cons_zero, List.set_cons_succ]
          refine held_take (v := ?_) 8 rfl (by kernel_rfl) (by kernel_rfl) (by kernel_rfl) (fun _ _ _ h => h) (by rfl) ?_ (by assumption) ?_
          rotate_left
          · (intro w hSw; (try dsimp only at hSw); go_simp; try with_reducible rfl)
          try simp only [Act.put, List.setIfInBounds_toArray, List.set_cons_zero, List.set_cons_succ]
          refine held_take (v := ?_) 9 rfl (by kernel_rfl) (by kernel_rfl) (by kernel_rfl) (fun _ _ _ h => h) (by rfl) ?_ (by assumption) ?_
          rotate_left
          · (intro w hSw; (try dsimp only at hSw); go_simp; try with_reducible rfl)
          try simp only [Act.put, List.setIfInBounds_toArray, List.set_cons_zero, List.set_cons_succ]
          refine held_take (v := ?_) 10 rfl (by kernel_rfl) (by kernel_rfl) (by kernel_rfl) (fun _ _ _ h => h) (by rfl) ?_ (by assumption) ?_
          rotate_left
          · (intro w hSw; (try dsimp only at hSw); go_simp; try with_reducible rfl)
          try simp only [Act.put, List.setIfInBounds_toArray, List.set_cons_zero, List.set_cons_succ]
          refine held_call 11 (by kernel_rfl) rfl (fun K hK => ?_)
          go_simp
          go_at_fn gf; refine (HC.out.1 _ (grownBy_drewN hgr 1)).mono ?_; rintro e w3 ⟨rfl, hb3d⟩; have hb3 : Below wr.heap.size wr w3 := undrew hb3d; clear hb3d
          try (go_wp2_with fail)
          refine hK.out _ _ ?_ (fun hHeld1 => ?_)
          · first | trivial | ((try dsimp only); (exact ⟨(HC.out.2.2.2.2.2.1.fresh hb3).cell_int HC.out.2.2.1, (HC.out.2.2.2.2.2.1.fresh hb3).cell_int HC.out.2.2.2.1⟩))
          clear hK K hHeld0
          try simp only [Act.put, List.setIfInBounds_toArray, List.set_cons_zero, List.set_cons_succ]
          refine held_take (v := ?_) 12 rfl (by kernel_rfl) (by kernel_rfl) (by kernel_rfl) (fun _ _ _ h => h) (by rfl) ?_ (by assumption) ?_
          rotate_left
          · (intro w hSw; (try dsimp only at hSw); go_simp; try with_reducible rfl)
          try simp only [Act.put, List.setIfInBounds_toArray, List.set_cons_zero, List.set_cons_succ]
          refine held_take (v := ?_) 13 rfl (by kernel_rfl) (by kernel_rfl) (by kernel_rfl) (fun _ _ _ h => h) (by rfl) ?_ (by assumption) ?_
          rotate_left
          · (intro w hSw; (try dsimp only at hSw); go_simp; try with_reducible rfl)
          try simp only [Act.put, List.setIfInBounds_toArray, List.set_cons_zero, List.set_cons_succ]
          refine wpAnyH_done (by kernel_rfl) ?_ _
          go_wp2_with fail
          go_roundg (j - (h + 1))
          case measure => omega
          case rel => exact ⟨h + 1, j, by omega, by omega, hjb, rfl, by go_num, rfl, ⟨⟨.inr ⟨u, t, HC.out.2.2.1, by rw [HC.out.2.2.2.2.2.2.2]; exact HC.out.2.2.2.1, by have := HC.out.2.1; omega⟩, HC.out.2.2.2.2.1.2⟩, HC.out.2.2.2.2.2.1.fresh hb3⟩, hgr.trans (grownBy_below _ hb3)⟩
      · obtain rfl : i = j := by omega
        have hcc := cut_cross H.out.2.2.1 H.out.2.2.2.1 H.out.2.2.2.2.1 hB.out hai hjb (by rw [HL.out]; exact hkeep.out.1) HY.out.1 HY.out.2.1 HY.out.2.2.1
        obtain ⟨X1, X2, Y1, Y2, rfl, rfl, hX1, hY1, hcross⟩ := hcc
        obtain ⟨e, he⟩ : ∃ e, n - i = e := ⟨_, rfl⟩
        rw [he] at hY1
        obtain ⟨⟨m1, m2, m3, m4⟩, -, hnn⟩ := HMD.out
        obtain ⟨hOw, hLN, hPa, hXm, hYb, hx1, hy1, hsz⟩ := H.out
        rw [List.length_append] at hXm hYb hx1 hy1
        rw [List.length_append, List.length_append] at hsz
        have hwe : IntKind.i64.wrap ((n : Int) - (i : Int)) = (e : Int) := by rw [IntWalk.i64_in _ (by omega)]; omega
        have hB2 := hB.out
        unfold CutB at hB2
        have f1 : i + Y1.length = mid := by omega
        have f2 : mid + X2.length = e := by omega
        have f3 : e + Y2.length = b := by omega
        have f4 : X1.length + Y1.length ≤ n0 := by omega
        have f5 : X2.length + Y2.length ≤ n0 := by omega
        have f6 : i ≤ m := by omega
        have f7 : m ≤ e := by omega
        have f8 : m = i + X2.length := by omega
        have hown := hkeep.out.2
        rw [← HL.out] at hown
        have HO := Lib.hid (And.intro hown (And.intro hLN (And.intro hPa (And.intro hcross (And.intro hX1 hY1))))); clear hown hLN hPa hcross hkeep hB2 hOw hXm hYb hx1 hy1 hsz m1 m2 m3 m4 hnn he
        have HX := Lib.hid (And.intro f1 (And.intro f2 (And.intro f3 (And.intro f4 (And.intro f5 (And.intro f8 hX1)))))); clear f1 f2 f3 f4 f5 f8 hX1 hY1 hij hlt hai hjb hB
        go_upto_region 39 with fail
        go_cut [185] from 178 to 184 (fun bv W => ∃ bb : Bool, bv = .bool bb ∧ Hid (bb = true ↔ i < m ∧ m < e) ∧ W = wr)
        case first =>
          by_cases c1 : i < m
          · by_cases c2 : m < e
            · go_wp2_with fail
              go_meet
              exact ⟨true, rfl, by unfold Hid; simp [c1, c2], rfl⟩
            · go_wp2_with fail
              go_meet
              exact ⟨false, rfl, by unfold Hid; simp [c2], rfl⟩
          · go_wp2_with fail
            go_meet
            exact ⟨false, rfl, by unfold Hid; simp [c1], rfl⟩
        case rest =>
          obtain ⟨bb, rfl, hbb, rfl⟩ := hcut
          rename World => wd
          go_upto_if 185 with fail
          go_cut [] from 186 to 191 (fun W => Hid (Own W base 3 (some ⟨g, 0, none⟩) c (P ++ X1 ++ Y1 ++ (X2 ++ Y2 ++ S))) ∧ wc.grownBy W (some g))
          case first =>
            cases bb with
            | true =>
              have hrot : i < m ∧ m < e := hbb.out.1 rfl
              have hc := rotate_any base g c i m e N (.func (.func gf) #[] lb) (P ++ X1) X2 Y1 (Y2 ++ S) wd (by have := HO.out.1; simpa using this) (by have := HO.out.2.1; rw [← this]; simp) hN5 (by have := HO.out.2.2.1; have := HX.out; simp; omega) (by have := HX.out; omega) (by have := HX.out; omega) (by have := HX.out; omega) (by have := HX.out; omega)
              have HC := Lib.hid hc; clear hc
              clear hrot
              go_wp2_with fail
              refine HC.out.mono ?_
              rintro e' w' ⟨rfl, ho', hg'⟩
              go_wp2_with fail
              go_meet
              exact ⟨by have := ho'; unfold Hid; simpa using this, hgr.trans hg'⟩
            | false =>
              have hrot : ¬ (i < m ∧ m < e) := fun h => absurd (hbb.out.2 h) (by decide)
              have ho' : Own wd base 3 (some ⟨g, 0, none⟩) c (P ++ X1 ++ Y1 ++ (X2 ++ Y2 ++ S)) := by
                have h1 := HO.out.1
                have h2 := HX.out
                by_cases c1 : i < m
                · have : Y1 = [] := List.eq_nil_of_length_eq_zero (by omega)
                  subst this; simpa using h1
                · have : X2 = [] := List.eq_nil_of_length_eq_zero (by omega)
                  subst this; simpa using h1
              have HC := Lib.hid ho'; clear ho' hrot
              go_wp2_with fail
              go_meet
              exact ⟨HC.out, hgr⟩
          case rest =>
            obtain ⟨hR, hgrR⟩ := hcut
            rename World => we
            clear hgr
            go_upto_region 41 with fail
            go_cut [199] from 192 to 198 (fun bv W => ∃ bb : Bool, bv = .bool bb ∧ Hid (bb = true ↔ a < i ∧ i < mid) ∧ W = we)
            case first =>
              by_cases c1 : a < i
              · by_cases c2 : i < mid
                · go_wp2_with fail
                  go_meet
                  exact ⟨true, rfl, by unfold Hid; simp [c1, c2], rfl⟩
                · go_wp2_with fail
                  go_meet
                  exact ⟨false, rfl, by unfold Hid; simp [c2], rfl⟩
              · go_wp2_with fail
                go_meet
                exact ⟨false, rfl, by unfold Hid; simp [c1], rfl⟩
            case rest =>
              obtain ⟨bb, rfl, hbb, rfl⟩ := hcut
              rename World => wf
              go_upto_if 199 with fail
              go_cut [] from 200 to 205 (fun W => (∃ Z, Hid (Z.Perm (X1 ++ Y1) ∧ Z.Pairwise (Srt.R f) ∧ Own W base 3 (some ⟨g, 0, none⟩) c (P ++ Z ++ (X2 ++ Y2 ++ S)))) ∧ wc.grownBy W (some g))
              case first =>
                cases bb with
                | true =>
                  have hrot : a < i ∧ i < mid := hbb.out.1 rfl
                  have hc := HI.out a i mid P X1 Y1 (X2 ++ Y2 ++ S) wf HX.out.2.2.2.1 hR.out (by have := HO.out.2.1; rw [← this]; simp; omega) HO.out.2.2.1 HX.out.2.2.2.2.2.2 HX.out.1 (by have := HX.out; omega) (by have := HX.out; omega)
                    (List.pairwise_append.1 HY.out.1).1 (List.pairwise_append.1 HY.out.2.1).1 (fun x hx y hy => HY.out.2.2.1 x (by simp [hx]) y (by simp [hy])) (fun z hz => HY.out.2.2.2 z (by rcases List.mem_append.1 hz with hz | hz <;> simp [hz])) (HF.out.grown hgrR)
                  have HC := Lib.hid hc; clear hc
                  clear hrot
                  go_wp2_with fail
                  refine HC.out.mono ?_
                  rintro e' w' ⟨rfl, ⟨Z, z1, z2, z3⟩, hg'⟩
                  have HZ := Lib.hid (And.intro z1 (And.intro z2 z3)); clear z1 z2 z3
                  go_wp2_with fail
                  go_meet
                  exact ⟨⟨Z, HZ.out⟩, hgrR.trans hg'⟩
                | false =>
                  have hrot : ¬ (a < i ∧ i < mid) := fun h => absurd (hbb.out.2 h) (by decide)
                  have ho' : (X1 ++ Y1).Pairwise (Srt.R f) := by
                    have h2 := HX.out
                    by_cases c1 : a < i
                    · have : Y1 = [] := List.eq_nil_of_length_eq_zero (by omega)
                      subst this; rw [List.append_nil]; exact (List.pairwise_append.1 HY.out.1).1
                    · have : X1 = [] := List.eq_nil_of_length_eq_zero (by omega)
                      subst this; exact (List.pairwise_append.1 HY.out.2.1).1
                  have HC := Lib.hid ho'; clear ho' hrot
                  go_wp2_with fail
                  go_meet
                  exact ⟨⟨X1 ++ Y1, List.Perm.refl _, HC.out, by have := hR.out; simpa using this⟩, hgrR⟩
              case rest =>
                obtain ⟨⟨Z1, hZ1⟩, hgrS⟩ := hcut
                rename World => wg
                clear hgrR hR
                go_upto_region 43 with fail
                go_cut [213] from 206 to 212 (fun bv W => ∃ bb : Bool, bv = .bool bb ∧ Hid (bb = true ↔ mid < e ∧ e < b) ∧ W = wg)
                case first =>
                  by_cases c1 : mid < e
                  · by_cases c2 : e < b
                    · go_wp2_with fail
                      go_meet
                      exact ⟨true, rfl, by unfold Hid; simp [c1, c2], rfl⟩
                    · go_wp2_with fail
                      go_meet
                      exact ⟨false, rfl, by unfold Hid; simp [c2], rfl⟩
                  · go_wp2_with fail
                    go_meet
                    exact ⟨false, rfl, by unfold Hid; simp [c1], rfl⟩
                case rest =>
                  obtain ⟨bb, rfl, hbb, rfl⟩ := hcut
                  rename World => wh
                  have hZl : Z1.length = X1.length + Y1.length := by have := hZ1.out.1.length_eq; simpa using this
                  cases bb with
                  | true =>
                    have hrot : mid < e ∧ e < b := hbb.out.1 rfl
                    have hc := HI.out mid e b (P ++ Z1) X2 Y2 S wh HX.out.2.2.2.2.1 (by have := hZ1.out.2.2; simpa using this) (by have := HO.out.2.1; rw [← this]; simp; omega) (by have := HO.out.2.2.1; have := HX.out; simp; omega) HX.out.2.1 HX.out.2.2.1 (by have := HX.out; omega) (by have := HX.out; omega)
                      (List.pairwise_append.1 HY.out.1).2.1 (List.pairwise_append.1 HY.out.2.1).2.1 (fun x hx y hy => HY.out.2.2.1 x (by simp [hx]) y (by simp [hy])) (fun z hz => HY.out.2.2.2 z (by rcases List.mem_append.1 hz with hz | hz <;> simp [hz])) (HF.out.grown hgrS)
                    have HC := Lib.hid (And.intro hc hZl); clear hc hZl
                    clear hrot
                    go_wp2_with fail
                    refine HC.out.1.mono ?_
                    rintro e' w' ⟨rfl, ⟨Z, z1, z2, z3⟩, hg'⟩
                    have HZ := Lib.hid (And.intro z1 (And.intro z2 z3)); clear z1 z2 z3
                    go_wp2_with fail
                    go_end0
                    refine ⟨rfl, ⟨Z1 ++ Z, ?_, Srt.join hZ1.out.1 HZ.out.1 hZ1.out.2.1 HZ.out.2.1 HO.out.2.2.2.1, by have := HZ.out.2.2; simpa using this⟩, hgrS.trans hg'⟩
                    have hp := hZ1.out.1.append HZ.out.1
                    refine hp.trans ?_
                    simp only [List.append_assoc]
                    refine List.Perm.append_left X1 ?_
                    rw [← List.append_assoc, ← List.append_assoc]
                    exact List.Perm.append_right Y2 List.perm_append_comm
                  | false =>
                    have hrot : ¬ (mid < e ∧ e < b) := fun h => absurd (hbb.out.2 h) (by decide)
                    have ho' : (X2 ++ Y2).Pairwise (Srt.R f) := by
                      have h2 := HX.out
                      by_cases c1 : mid < e
                      · have : Y2 = [] := List.eq_nil_of_length_eq_zero (by omega)
                        subst this; rw [List.append_nil]; exact (List.pairwise_append.1 HY.out.1).2.1
                      · have : X2 = [] := List.eq_nil_of_length_eq_zero (by omega)
                        subst this; exact (List.pairwise_append.1 HY.out.2.1).2.1
                    have HC := Lib.hid ho'; clear ho' hrot
                    go_wp2_with fail
                    go_end0
                    refine ⟨rfl, ⟨Z1 ++ (X2 ++ Y2), ?_, Srt.join hZ1.out.1 (List.Perm.refl _) hZ1.out.2.1 HC.out HO.out.2.2.2.1, by have := hZ1.out.2.2; simpa using this⟩, hgrS⟩
                    have hp := hZ1.out.1.append (List.Perm.refl (X2 ++ Y2))
                    refine hp.trans ?_
                    simp only [List.append_assoc]
                    refine List.Perm.append_left X1 ?_
                    rw [← List.append_assoc, ← List.append_assoc]
                    exact List.Perm.append_right Y2 List.perm_append_comm

end Go.Proofs.Ytljdnadejmkaeaa
