/- The law of what is marked. -/
import Derived.Test.YtpkccpegdpodoaaMkY
namespace Go.Proofs.Ytpkccpegdpodoaa
open Go.RowKit

attribute [local go_sem ↓] Go.wp_at_zero Go.wp_at_succ

/-- both stand alike, apart from each other -/
def TwoSt (w : World) (base p q : Nat) (kind : Int) : Prop :=
  ∃ (F G : Nat → Prop) (mk : Bool) (s : List It), Mkr w base F p kind mk s ∧ Mdl w base G q 0 kind mk s ∧ MInv kind mk s ∧ (∀ g, F g → ¬ G g) ∧ (∀ g, F g → base ≤ g ∧ g < w.heap.size) ∧ (∀ g, G g → base ≤ g ∧ g < w.heap.size)

theorem At.take_M {α : Type} [Enc α] {w : World} {B : Nat} {A : Option Addr} {l : List α} (h : At w B A l) (k : Nat) : At w B A (l.take k) := fun i x hx => h i x (by
  rw [List.getElem?_take] at hx
  split at hx
  · exact hx
  · cases hx)

set_option maxHeartbeats 1600000 in
set_option maxRecDepth 100000 in
theorem markTells_no (A : Option Addr) (c : Nat) (l : List De) (kind : Int) (w : World) (h1 : kind ≠ 1) (h2 : kind ≠ 2) :
    Calls Try.prog 9 #[.int .i64 kind, .slice A l.length c] w fun e w' => e = .returned (.bool true) ∧ Below w.heap.size w w' := by
  have d1 : (kind != 1) = true := by simpa using h1
  have d2 : (kind != 2) = true := by simpa using h2
  have H := Lib.hid (And.intro h1 h2); clear h1 h2
  go_enter Try.func9, Try.ntmps9
  go_wp2_with fail
  refine (marked_any w).mono ?_
  rintro e w1 ⟨rfl, hb1⟩
  go_wp2_with fail
  refine (mnew_no kind w1 H.out.1 H.out.2).mono ?_
  rintro e w2 ⟨rfl, rfl⟩
  go_wp2_with fail
  go_ret
  exact ⟨rfl, hb1⟩

set_option maxHeartbeats 6400000 in
set_option maxRecDepth 100000 in
theorem markTells_yes (A : Option Addr) (c B : Nat) (l : List De) (kind : Int) (w : World) (h : At w B A l) (hB : B ≤ w.heap.size) (hl : l.length ≤ 9223372036854775807) (hc : l.length ≤ c) (hk : kind = 1 ∨ kind = 2) :
    Calls Try.prog 9 #[.int .i64 kind, .slice A l.length c] w fun e w' => e = .returned (.bool true) ∧ Below w.heap.size w w' := by
  have hd : (kind != 1) = false ∨ (kind != 1) = true ∧ (kind != 2) = false := by
    rcases hk with rfl | rfl
    · exact .inl (by decide)
    · exact .inr ⟨by decide, by decide⟩
  obtain ⟨n, hn⟩ : ∃ n, n = min l.length 120 := ⟨_, rfl⟩
  have hmin : min (l.length : Int) 120 = (n : Int) := by omega
  have htl : (l.take 120).length = n := by rw [List.length_take]; omega
  have hn1 : n ≤ l.length := by omega
  have hn2 : n ≤ c := by omega
  have hn3 : n ≤ 120 := by omega
  have H := Lib.hid (And.intro (h.take_M 120) (And.intro htl hk)); clear h htl hk hn
  generalize l.take 120 = l' at H
  rcases hd with d1 | ⟨d1, d2⟩
  all_goals
    go_enter Try.func9, Try.ntmps9
    go_wp2_with fail
    refine (marked_any w).mono ?_
    rintro e w1 ⟨rfl, hb1⟩
    have hs1 := hb1.size
    go_wp2_with fail
    refine (mnew_yes kind w1 H.out.2.2).mono ?_
    rintro e w2 ⟨rfl, hm2, hb2⟩
    have hs2 := hb2.size
    have hlt2 := hm2.fine_len
    have HM := Lib.hid (And.intro hm2 (hb1.trans (hb2.mono hs1))); clear hm2 hb2 hb1
    go_wp2_with fail
    refine wp_world (fun W => TwoSt W w.heap.size w1.heap.size w2.heap.size kind ∧ Below w.heap.size w W) ⟨?_, HM.out.2.alloc (by omega) _⟩ ?_
    · refine ⟨fun g => g = w1.heap.size, fun g => g = w2.heap.size, false, [], ?_, ?_, MInv.start kind, fun g h1 h2 => by omega, fun g hg => by subst hg; exact ⟨hs1, by simp; omega⟩, fun g hg => by subst hg; exact ⟨by omega, by simp⟩⟩
      · obtain ⟨A, c, l, k1, k2, k3, k4, k5⟩ := HM.out.1
        exact ⟨A, c, l, k1.alloc _, ⟨k2.row.alloc _ |>.base_le hs1, k2.foot, fun i x hx => ⟨((k2.sub i x hx).1.alloc _).base_le hs1, (k2.sub i x hx).2⟩, k2.apart⟩, k3, by omega, k5⟩
      · exact ⟨none, 0, [], Blk.new _ _ _, Its.nil_ _ _ _ _, rfl, by omega, rfl⟩
    rintro W ⟨hW, hbW⟩
    have HW := Lib.hid (And.intro hW hbW); clear hW hbW HM
    go_loopg [50] n (fun gk iv wr => ∃ k : Nat, k ≤ n ∧ gk = n - k ∧ iv = .int .i64 k ∧ Hid (TwoSt wr w.heap.size w1.heap.size w2.heap.size kind) ∧ Below w.heap.size w wr)
    case atStart => exact ⟨0, Nat.zero_le _, rfl, rfl, HW.out.1, HW.out.2⟩
    case round =>
      obtain ⟨k, hk, rfl, rfl, hkeep, hbl⟩ := hrel
      have hsz := hbl.size
      by_cases hlt : k < n
      · obtain ⟨b, o, x, rfl, hb, hx, q0, q1, q2, q3, i0, i1, i2, i3⟩ := (H.out.1.below (hbl.mono hB)).de_ (k := k) (by have := H.out.2.1; omega)
        have b0 : (0 : Int) ≤ (k : Int) := by omega
        have b1 : (k : Int) < (n : Int) := by omega
        obtain ⟨dd, a, b', nn⟩ := x
        simp only at q0 q1 q2 q3 i0 i1 i2 i3
        have HX := Lib.hid (And.intro (And.intro i1 (And.intro i2 i3)) hkeep.out); clear i0 i1 i2 i3 hkeep hx
        obtain ⟨wo, rfl⟩ : ∃ wo : World, wo = wr := ⟨_, rfl⟩
        go_wp2_with fail
        refine calls_world (fun V => Blk V wo.heap.size 97 #[.int .i64 dd, .int .i64 a, .int .i64 b', .int .i64 nn] ∧ Below wo.heap.size wo V ∧ wo.heap.size < V.heap.size) ⟨Blk.new _ _ _, (Below.refl _ _).alloc (Nat.le_refl _) _, by simp⟩ ?_
        rintro V ⟨hD, hbV, hsV⟩
        obtain ⟨F, G, mk, s, t1, t2, t3, t4, t5, t6⟩ := HX.out.2
        have HT := Lib.hid (And.intro (t1.fresh hbV) (And.intro (t2.fresh hbV) (And.intro t3 (And.intro t4 (And.intro t5 t6))))); clear t1 t2 t3 t4 t5 t6
        clear q0 q1 q2 q3
        refine (mdo_any V w.heap.size w1.heap.size F kind dd a b' nn mk s HT.out.1 HT.out.2.2.1 H.out.2.2 (fun g hg => by have := HT.out.2.2.2.2.1 g hg; omega) HX.out.1).mono ?_
        rintro e w4 ⟨he, hm4, hT4⟩
        have hs4 := hT4.size
        obtain ⟨r, hr⟩ : ∃ r, marksI kind mk s ⟨dd, a, b', nn⟩ = r := ⟨_, rfl⟩
        have hinv := marks_inv H.out.2.2 HT.out.2.2.1 ⟨dd, a, b', nn⟩
        rw [hr] at he hm4 hinv
        obtain ⟨r1, r2, mk', s'⟩ := r
        simp only at he hm4 hinv
        subst he
        have hD4 := hD.touch hT4 (fun e => by have := HT.out.2.2.2.2.1 _ e; omega)
        have hM4 := HT.out.2.1.touch hT4 (fun g hg hf => HT.out.2.2.2.1 g hf hg)
        have hs100 := hinv.small
        have x0 := hD4.cell 0 (v := .int .i64 dd) rfl
        have x1 := hD4.cell 1 (v := .int .i64 a) rfl
        have x2 := hD4.cell 2 (v := .int .i64 b') rfl
        have x3 := hD4.cell 3 (v := .int .i64 nn) rfl
        have HU := Lib.hid (And.intro hm4 (And.intro hM4 (And.intro hinv (And.intro hr (And.intro hT4 hD4))))); clear hm4 hM4 hinv hr hT4 hD hD4
        simp only
        go_wp2_with fail
        refine (marks_any w4 w.heap.size w2.heap.size G 0 kind dd a b' nn mk s HU.out.2.1 HT.out.2.2.1 H.out.2.2 (fun g hg => by have := HT.out.2.2.2.2.2 g hg; omega) HX.out.1).mono ?_
        rintro e w5 ⟨he, hm5, hT5⟩
        have hs5 := hT5.size
        rw [HU.out.2.2.2.1] at he hm5
        simp only at he hm5
        subst he
        have hK5 := HU.out.1.touch hT5 (fun g hg hG => by
          rcases hg with hg | hg
          · exact HT.out.2.2.2.1 g hg hG
          · have := HT.out.2.2.2.2.2 g hG; omega)
        clear x0 x1 x2 x3
        have HY := Lib.hid (And.intro hK5 (And.intro hm5 (And.intro HU.out.2.2.1 hT5))); clear hK5 hm5 hT5
        simp only
        go_wp2_with fail
        refine (colours_any w5 w.heap.size w1.heap.size _ kind mk' s' HY.out.1 (by omega)).mono ?_
        rintro e w6 ⟨CA, cc, rfl, ho6, hb6⟩
        have hs6 := hb6.size
        have HZ := Lib.hid (And.intro (HY.out.1.fresh hb6) (And.intro (HY.out.2.1.fresh hb6) (And.intro ho6 (And.intro HY.out.2.2.1 hb6)))); clear ho6 hb6
        go_wp2_with fail
        obtain ⟨QI, qk, ql, m1, m2, m3, m4, m5⟩ := HZ.out.2.1
        have c0 := m1.cell 0 (v := .slice QI ql.length qk) rfl
        have c3 := m1.cell 3 (v := .bool mk') rfl
        rw [← its_length ql, m5] at c0
        have hq6 := m1.lt
        have hdz : w6.heap.size ≤ w6.drew.heap.size := Nat.le_refl _
        clear m1 m2 m3 m4 m5
        have hrok := rising_I64 (s'.map It.held) (by rw [List.length_map]; omega)
        go_cut [102] from 68 to 102 (fun ov V => ov = .bool false ∧ Below w6.heap.size w6 V)
        case first =>
          refine wp_region_held_drew (S := (fun w' => w'.cell? ⟨w2.heap.size, 0, none⟩ = some (.slice QI s'.length qk) ∧ w'.cell? ⟨w2.heap.size, 3, none⟩ = some (.bool mk'))) (by kernel_rfl) ?_ (fun hHeld0 => ?_)
          · first | trivial | ((try dsimp only); (exact ⟨c0, c3⟩))
          refine held_take (v := ?_) 0 rfl (by kernel_rfl) (by kernel_rfl) (by kernel_rfl) (fun _ _ _ h => h) (by rfl) ?_ (by assumption) ?_
          rotate_left
          · (intro w hSw; (try dsimp only at hSw); go_simp; try with_reducible rfl)
          try simp only [Act.put, List.setIfInBounds_toArray, List.set_cons_zero, List.set_cons_succ]
          refine held_take (v := ?_) 1 rfl (by kernel_rfl) (by kernel_rfl) (by kernel_rfl) (fun _ _ _ h => h) (by rfl) ?_ (by assumption) ?_
          rotate_left
          · (intro w hSw; (try dsimp only at hSw); go_simp; try with_reducible rfl)
          try simp only [Act.put, List.setIfInBounds_toArray, List.set_cons_zero, List.set_cons_succ]
          refine held_take (v := ?_) 2 rfl (by kernel_rfl) (by kernel_rfl) (by kernel_rfl) (fun _ _ _ h => h) (by rfl) ?_ (by assumption) ?_
          rotate_left
          · (intro w hSw; (try dsimp only at hSw); go_simp; try with_reducible rfl)
          try simp only [Act.put, List.setIfInBounds_toArray, List.set_cons_zero, List.set_cons_succ]
          refine held_take (v := ?_) 3 rfl (by kernel_rfl) (by kernel_rfl) (by kernel_rfl) (fun _ _ _ h => h) (by rfl) ?_ (by assumption) ?_
          rotate_left
          · (intro w hSw; (try dsimp only at hSw); go_simp; try with_reducible rfl)
          try simp only [Act.put, List.setIfInBounds_toArray, List.set_cons_zero, List.set_cons_succ]
          refine held_take (v := ?_) 4 rfl (by kernel_rfl) (by kernel_rfl) (by kernel_rfl) (fun _ _ _ h => h) (by rfl) ?_ (by assumption) ?_
          rotate_left
          · (intro w hSw; (try dsimp only at hSw); go_simp; try with_reducible rfl)
          try simp only [Act.put, List.setIfInBounds_toArray, List.set_cons_zero, List.set_cons_succ]
          refine held_take (v := ?_) 5 rfl (by kernel_rfl) (by kernel_rfl) (by kernel_rfl) (fun _ _ _ h => h) (by rfl) ?_ (by assumption) ?_
          rotate_left
          · (intro w hSw; (try dsimp only at hSw); go_simp; try with_reducible rfl)
          try simp only [Act.put, List.setIfInBounds_toArray, List.set_cons_zero, List.set_cons_succ]
          refine held_take (v := ?_) 6 rfl (by kernel_rfl) (by kernel_rfl) (by kernel_rfl) (fun _ _ _ h => h) (by rfl) ?_ (by assumption) ?_
          rotate_left
          · (intro w hSw; (try dsimp only at hSw); go_simp; try with_reducible rfl)
          try simp only [Act.put, List.setIfInBounds_toArray, List.set_cons_zero, List.set_cons_succ]
          refine held_take (v := ?_) 7 rfl (by kernel_rfl) (by kernel_rfl) (by kernel_rfl) (fun _ _ _ h => h) (by rfl) ?_ (by assumption) ?_
          rotate_left
          · (intro w hSw; (try dsimp only at hSw); go_simp; try with_reducible rfl)
          try simp only [Act.put, List.setIfInBounds_toArray, List.set_cons_zero, List.set_cons_succ]
          refine held_take (v := ?_) 8 rfl (by kernel_rfl) (by kernel_rfl) (by kernel_rfl) (fun _ _ _ h => h) (by rfl) ?_ (by assumption) ?_
          rotate_left
          · (intro w hSw; (try dsimp only at hSw); go_simp; try with_reducible rfl)
          try simp only [Act.put, List.setIfInBounds_toArray, List.set_cons_zero, List.set_cons_succ]
          refine held_take (v := ?_) 9 rfl (by kernel_rfl) (by kernel_rfl) (by kernel_rfl) (fun _ _ _ h => h) (by rfl) ?_ (by assumption) ?_
          rotate_left
          · (intro w hSw; (try dsimp only at hSw); go_simp; try with_reducible rfl)
          try simp only [Act.put, List.setIfInBounds_toArray, List.set_cons_zero, List.set_cons_succ]
          refine held_take (v := ?_) 10 rfl (by kernel_rfl) (by kernel_rfl) (by kernel_rfl) (fun _ _ _ h => h) (by rfl) ?_ (by assumption) ?_
          rotate_left
          · (intro w hSw; (try dsimp only at hSw); go_simp; try with_reducible rfl)
          try simp only [Act.put, List.setIfInBounds_toArray, List.set_cons_zero, List.set_cons_succ]
          refine held_take (v := ?_) 11 rfl (by kernel_rfl) (by kernel_rfl) (by kernel_rfl) (fun _ _ _ h => h) (by rfl) ?_ (by assumption) ?_
          rotate_left
          · (intro w hSw; (try dsimp only at hSw); go_simp; try with_reducible rfl)
          try simp only [Act.put, List.setIfInBounds_toArray, List.set_cons_zero, List.set_cons_succ]
          refine held_take (v := ?_) 12 rfl (by kernel_rfl) (by kernel_rfl) (by kernel_rfl) (fun _ _ _ h => h) (by rfl) ?_ (by assumption) ?_
          rotate_left
          · (intro w hSw; (try dsimp only at hSw); go_simp; try with_reducible rfl)
          try simp only [Act.put, List.setIfInBounds_toArray, List.set_cons_zero, List.set_cons_succ]
          refine held_take (v := ?_) 13 rfl (by kernel_rfl) (by kernel_rfl) (by kernel_rfl) (fun _ _ _ h => h) (by rfl) ?_ (by assumption) ?_
          rotate_left
          · (intro w hSw; (try dsimp only at hSw); go_simp; try with_reducible rfl)
          try simp only [Act.put, List.setIfInBounds_toArray, List.set_cons_zero, List.set_cons_succ]
          refine held_take (v := ?_) 14 rfl (by kernel_rfl) (by kernel_rfl) (by kernel_rfl) (fun _ _ _ h => h) (by rfl) ?_ (by assumption) ?_
          rotate_left
          · (intro w hSw; (try dsimp only at hSw); go_simp; try with_reducible rfl)
          try simp only [Act.put, List.setIfInBounds_toArray, List.set_cons_zero, List.set_cons_succ]
          refine held_take (v := ?_) 15 rfl (by kernel_rfl) (by kernel_rfl) (by kernel_rfl) (fun _ _ _ h => h) (by rfl) ?_ (by assumption) ?_
          rotate_left
          · (intro w hSw; (try dsimp only at hSw); go_simp; try with_reducible rfl)
          try simp only [Act.put, List.setIfInBounds_toArray, List.set_cons_zero, List.set_cons_succ]
          refine held_take (v := ?_) 16 rfl (by kernel_rfl) (by kernel_rfl) (by kernel_rfl) (fun _ _ _ h => h) (by rfl) ?_ (by assumption) ?_
          rotate_left
          · (intro w hSw; (try dsimp only at hSw); go_simp; try with_reducible rfl)
          try simp only [Act.put, List.setIfInBounds_toArray, List.set_cons_zero, List.set_cons_succ]
          refine held_take (v := ?_) 17 rfl (by kernel_rfl) (by kernel_rfl) (by kernel_rfl) (fun _ _ _ h => h) (by rfl) ?_ (by assumption) ?_
          rotate_left
          · (intro w hSw; (try dsimp only at hSw); go_simp; try with_reducible rfl)
          try simp only [Act.put, List.setIfInBounds_toArray, List.set_cons_zero, List.set_cons_succ]
          refine held_take (v := ?_) 18 rfl (by kernel_rfl) (by kernel_rfl) (by kernel_rfl) (fun _ _ _ h => h) (by rfl) ?_ (by assumption) ?_
          rotate_left
          · (intro w hSw; (try dsimp only at hSw); go_simp; try with_reducible rfl)
          try simp only [Act.put, List.setIfInBounds_toArray, List.set_cons_zero, List.set_cons_succ]
          refine held_take (v := ?_) 19 rfl (by kernel_rfl) (by kernel_rfl) (by kernel_rfl) (fun _ _ _ h => h) (by rfl) ?_ (by assumption) ?_
          rotate_left
          · (intro w hSw; (try dsimp only at hSw); go_simp; try with_reducible rfl)
          try simp only [Act.put, List.setIfInBounds_toArray, List.set_cons_zero, List.set_cons_succ]
          refine held_take (v := ?_) 21 rfl (by kernel_rfl) (by kernel_rfl) (by kernel_rfl) (fun _ _ _ h => h) (by rfl) ?_ (by assumption) ?_
          rotate_left
          · (intro w hSw; (try dsimp only at hSw); go_simp; try with_reducible rfl)
          try simp only [Act.put, List.setIfInBounds_toArray, List.set_cons_zero, List.set_cons_succ]
          refine held_take (v := ?_) 22 rfl (by kernel_rfl) (by kernel_rfl) (by kernel_rfl) (fun _ _ _ h => h) (by rfl) ?_ (by assumption) ?_
          rotate_left
          · (intro w hSw; (try dsimp only at hSw); go_simp; try with_reducible rfl)
          try simp only [Act.put, List.setIfInBounds_toArray, List.set_cons_zero, List.set_cons_succ]
          refine held_take (v := ?_) 23 rfl (by kernel_rfl) (by kernel_rfl) (by kernel_rfl) (fun _ _ _ h => h) (by rfl) ?_ (by assumption) ?_
          rotate_left
          · (intro w hSw; (try dsimp only at hSw); go_simp; try with_reducible rfl)
          try simp only [Act.put, List.setIfInBounds_toArray, List.set_cons_zero, List.set_cons_succ]
          refine held_take (v := ?_) 24 rfl (by kernel_rfl) (by kernel_rfl) (by kernel_rfl) (fun _ _ _ h => h) (by rfl) ?_ (by assumption) ?_
          rotate_left
          · (intro w hSw; (try dsimp only at hSw); go_simp; try with_reducible rfl)
          try simp only [Act.put, List.setIfInBounds_toArray, List.set_cons_zero, List.set_cons_succ]
          refine held_call 20 (by kernel_rfl) rfl (fun K hK => ?_)
          go_simp
          go_at_call 55; refine (marking_any w6.drew w.heap.size w1.heap.size _ kind mk' s' (HZ.out.1.drewN 1)).mono ?_; rintro e w7 ⟨rfl, rfl⟩
          try (go_wp2_with fail)
          refine hK.out _ _ ?_ (fun hHeld1 => ?_)
          · first | trivial | ((try dsimp only); (exact ⟨c0, c3⟩))
          clear hK K hHeld0
          try simp only [Act.put, List.setIfInBounds_toArray, List.set_cons_zero, List.set_cons_succ]
          refine held_take (v := ?_) 25 rfl (by kernel_rfl) (by kernel_rfl) (by kernel_rfl) (fun _ _ _ h => h) (by rfl) ?_ (by assumption) ?_
          rotate_left
          · (intro w hSw; (try dsimp only at hSw); go_simp; try with_reducible rfl)
          try simp only [Act.put, List.setIfInBounds_toArray, List.set_cons_zero, List.set_cons_succ]
          refine held_take (v := ?_) 26 rfl (by kernel_rfl) (by kernel_rfl) (by kernel_rfl) (fun _ _ _ h => h) (by rfl) ?_ (by assumption) ?_
          rotate_left
          · (intro w hSw; (try dsimp only at hSw); go_simp; try with_reducible rfl)
          try simp only [Act.put, List.setIfInBounds_toArray, List.set_cons_zero, List.set_cons_succ]
          refine held_take (v := ?_) 27 rfl (by kernel_rfl) (by kernel_rfl) (by kernel_rfl) (fun _ _ _ h => h) (by rfl) ?_ (by assumption) ?_
          rotate_left
          · (intro w hSw; (try dsimp only at hSw); go_simp; try with_reducible rfl)
          try simp only [Act.put, List.setIfInBounds_toArray, List.set_cons_zero, List.set_cons_succ]
          refine held_take (v := ?_) 28 rfl (by kernel_rfl) (by kernel_rfl) (by kernel_rfl) (fun _ _ _ h => h) (by rfl) ?_ (by assumption) ?_
          rotate_left
          · (intro w hSw; (try dsimp only at hSw); go_simp; try with_reducible rfl)
          try simp only [Act.put, List.setIfInBounds_toArray, List.set_cons_zero, List.set_cons_succ]
          refine held_take (v := ?_) 30 rfl (by kernel_rfl) (by kernel_rfl) (by kernel_rfl) (fun _ _ _ h => h) (by rfl) ?_ (by assumption) ?_
          rotate_left
          · (intro w hSw; (try dsimp only at hSw); go_simp; try with_reducible rfl)
          try simp only [Act.put, List.setIfInBounds_toArray, List.set_cons_zero, List.set_cons_succ]
          refine held_call 29 (by kernel_rfl) rfl (fun K hK => ?_)
          go_simp
          go_at_call 57; refine (mgraph_any w6.drew w.heap.size w1.heap.size _ kind mk' s' (HZ.out.1.drewN 1) hs100 HZ.out.2.2.2.1.long).mono ?_; rintro e w7 ⟨GA, GR, gc, gr, gm, rfl, g1, g2, g3, gb⟩; have gs := gb.size; have d0 := (gb.cell (p := ⟨w2.heap.size, 0, none⟩) (by show w2.heap.size < w6.heap.size; omega)).trans c0; have d3 := (gb.cell (p := ⟨w2.heap.size, 3, none⟩) (by show w2.heap.size < w6.heap.size; omega)).trans c3; have HG := Lib.hid (And.intro g1 (And.intro g2 (And.intro g3 gb))); clear g1 g2 g3 gb
          try (go_wp2_with fail)
          refine hK.out _ _ ?_ (fun hHeld2 => ?_)
          · first | trivial | ((try dsimp only); (exact ⟨d0, d3⟩))
          clear hK K hHeld1
          try simp only [Act.put, List.setIfInBounds_toArray, List.set_cons_zero, List.set_cons_succ]
          refine held_call 31 (by kernel_rfl) rfl (fun K hK => ?_)
          go_simp
          go_at_call 58; refine (rgraph_any w7 w.heap.size w2.heap.size _ 0 kind mk' s' ((HZ.out.2.1.drewN 1).fresh HG.out.2.2.2) hs100 HZ.out.2.2.2.1.long HZ.out.2.2.2.1.fine.neg).mono ?_; rintro e w8 ⟨QA, QR, qc, qr, qm, rfl, q1, q2, q3, qb⟩; have qs := qb.size; have f0 := (qb.cell (p := ⟨w2.heap.size, 0, none⟩) (by show w2.heap.size < w7.heap.size; omega)).trans d0; have f3 := (qb.cell (p := ⟨w2.heap.size, 3, none⟩) (by show w2.heap.size < w7.heap.size; omega)).trans d3; have HQ := Lib.hid (And.intro q1 (And.intro q2 (And.intro q3 qb))); clear q1 q2 q3 qb
          try (go_wp2_with fail)
          refine hK.out _ _ ?_ (fun hHeld3 => ?_)
          · first | trivial | ((try dsimp only); (exact ⟨f0, f3⟩))
          clear hK K hHeld2
          try simp only [Act.put, List.setIfInBounds_toArray, List.set_cons_zero, List.set_cons_succ]
          refine held_call 32 (by kernel_rfl) rfl (fun K hK => ?_)
          go_simp
          go_at_call 56; have hgl := gHas_length s'; obtain rfl : gm = qm := HG.out.2.2.1.symm.trans HQ.out.2.2.1; refine (same_any w8 GA QA GR QR gc qc gr qr s'.length gm (gHas s') (gRoots s') (((HG.out.1.below (HQ.out.2.2.2.mono (Nat.le_refl _))).more qs)) HQ.out.1 (((HG.out.2.1.fresh HQ.out.2.2.2).at_ hrok)) (HQ.out.2.1.at_ hrok) hgl HQ.out.2.2.1 hs100 (by have h1 := gRoots_len s'; have h2 := HQ.out.2.2.1; omega) HZ.out.2.2.2.1.fine.glen).mono ?_; rintro e w9 ⟨rfl, hb9⟩; have hs9 := hb9.size; have k0 := (hb9.cell (p := ⟨w2.heap.size, 0, none⟩) (by show w2.heap.size < w8.heap.size; omega)).trans f0; have k3 := (hb9.cell (p := ⟨w2.heap.size, 3, none⟩) (by show w2.heap.size < w8.heap.size; omega)).trans f3; have HBB := Lib.hid (((undrew HG.out.2.2.2).trans (HQ.out.2.2.2.mono gs)).trans (hb9.mono (Nat.le_trans gs qs)))
          try (go_wp2_with fail)
          refine hK.out _ _ ?_ (fun hHeld4 => ?_)
          · first | trivial | ((try dsimp only); (exact ⟨k0, k3⟩))
          clear hK K hHeld3
          try simp only [Act.put, List.setIfInBounds_toArray, List.set_cons_zero, List.set_cons_succ]
          refine held_take (v := ?_) 33 rfl (by kernel_rfl) (by kernel_rfl) (by kernel_rfl) (fun _ _ _ h => h) (by rfl) ?_ (by assumption) ?_
          rotate_left
          · (intro w hSw; (try dsimp only at hSw); go_simp; try with_reducible rfl)
          try simp only [Act.put, List.setIfInBounds_toArray, List.set_cons_zero, List.set_cons_succ]
          refine held_take (v := ?_) 34 rfl (by kernel_rfl) (by kernel_rfl) (by kernel_rfl) (fun _ _ _ h => h) (by rfl) ?_ (by assumption) ?_
          rotate_left
          · (intro w hSw; (try dsimp only at hSw); go_simp; try with_reducible rfl)
          try simp only [Act.put, List.setIfInBounds_toArray, List.set_cons_zero, List.set_cons_succ]
          refine wpAnyH_done (by kernel_rfl) ?_ _
          go_wp2_with fail
          go_meet
          exact ⟨rfl, HBB.out⟩
        case rest =>
          obtain ⟨rfl, hbc⟩ := hcut
          clear c0 c3
          have hsc := hbc.size
          have hbw : Below w.heap.size w wc := hbl.trans ((hbV.mono hsz).trans ((HU.out.2.2.2.2.1.below (fun g hg => by have := (HT.out.2.2.2.2.1 g hg).1; omega) (by omega)).trans ((HY.out.2.2.2.below (fun g hg => by have := (HT.out.2.2.2.2.2 g hg).1; omega) (by omega)).trans ((HZ.out.2.2.2.2.mono (by omega)).trans (hbc.mono (by omega))))))
          have HE := Lib.hid (And.intro (HZ.out.1.fresh hbc) (And.intro (HZ.out.2.1.fresh hbc) (And.intro (HZ.out.2.2.1.fresh hbc) hbw))); clear hbw
          go_wp2_with fail
          go_loopg [105] s'.length (fun gk iv wr => ∃ t : Nat, t ≤ s'.length ∧ gk = s'.length - t ∧ iv = .int .i64 t ∧ Below wc.heap.size wc wr)
          case atStart => exact ⟨0, Nat.zero_le _, rfl, rfl, Below.refl _ _⟩
          case round =>
            obtain ⟨t, ht, rfl, rfl, hbt⟩ := hrel
            have hst := hbt.size
            by_cases hlt2 : t < s'.length
            · obtain ⟨x, hx⟩ : ∃ x, s'[t]? = some x := ⟨_, List.getElem?_eq_getElem hlt2⟩
              obtain ⟨g, cg, v, e0, e1, e2, e3, _, _, _⟩ := (HE.out.2.1.fresh hbt).get hx
              obtain ⟨gc, rfl, _, _⟩ := HE.out.2.2.1.some_ (by rw [List.length_map]; omega)
              have f0 := (HE.out.2.2.1.fresh hbt).cell_int (i := t) (b := x.st) (by rw [List.getElem?_map, hx]; rfl)
              have a0 : (0 : Int) ≤ (t : Int) := by omega
              have a1 : (t : Int) < (s'.length : Int) := by omega
              have a2 : (x.st != x.st) = false := by simp
              clear e1 e3
              go_wp2_with (go_quiet (fail))
              go_roundg (s'.length - (t + 1))
              case measure => omega
              case rel => exact ⟨t + 1, by omega, rfl, by go_num, ⟨hbt.os, hbt.tape, hbt.output, hbt.size, hbt.block⟩⟩
            · obtain rfl : s'.length = t := by omega
              have HR := Lib.hid (And.intro (HE.out.1.fresh hbt) (And.intro (HE.out.2.1.fresh hbt) (HE.out.2.2.2.trans (hbt.mono (by omega)))))
              go_wp2_with fail
              go_roundg (n - (k + 1))
              case measure => omega
              case rel =>
                refine ⟨k + 1, by omega, rfl, by go_num, ⟨Up F V w4, Up G w4 w5, mk', s', HR.out.1, HR.out.2.1, HZ.out.2.2.2.1, ?_, ?_, ?_⟩, HR.out.2.2⟩
                · intro g hf hg
                  rcases hf with hf | hf
                  · rcases hg with hg | hg
                    · exact HT.out.2.2.2.1 g hf hg
                    · have := (HT.out.2.2.2.2.1 g hf).2; omega
                  · rcases hg with hg | hg
                    · have := (HT.out.2.2.2.2.2 g hg).2; omega
                    · omega
                · intro g hf
                  rcases hf with hf | hf
                  · have := HT.out.2.2.2.2.1 g hf; omega
                  · omega
                · intro g hf
                  rcases hf with hf | hf
                  · have := HT.out.2.2.2.2.2 g hf; omega
                  · omega
      · obtain rfl : n = k := by omega
        clear hkeep
        go_wp2_with fail
        go_ret
        exact ⟨rfl, hbl⟩

theorem markTells_any (A : Option Addr) (c B : Nat) (l : List De) (kind : Int) (w : World) (h : At w B A l) (hB : B ≤ w.heap.size) (hl : l.length ≤ 9223372036854775807) (hc : l.length ≤ c) :
    Calls Try.prog 9 #[.int .i64 kind, .slice A l.length c] w fun e w' => e = .returned (.bool true) ∧ Below w.heap.size w w' := by
  by_cases h1 : kind = 1
  · exact markTells_yes A c B l kind w h hB hl hc (.inl h1)
  by_cases h2 : kind = 2
  · exact markTells_yes A c B l kind w h hB hl hc (.inr h2)
  exact markTells_no A c l kind w h1 h2

end Go.Proofs.Ytpkccpegdpodoaa
