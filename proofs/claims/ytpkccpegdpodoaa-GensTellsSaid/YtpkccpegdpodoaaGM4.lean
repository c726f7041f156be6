/- GM: GnO, GnJ, GnK, GnL, GnM, GenN, GnN, MkS, MkT, MkU, GnP, GenQ, GnQ, GnR, MkV, MkW, MkX. -/
import Derived.Test.YtpkccpegdpodoaaGM1
import Derived.Test.YtpkccpegdpodoaaGM2
import Derived.Test.YtpkccpegdpodoaaGM3
import Derived.StillTailTactics
/- gens: Barrier. -/
namespace Go.Proofs.Ytpkccpegdpodoaa
open Go.RowKit Go.Maps Go.WideShapes

attribute [local go_sem ↓] Go.wp_at_zero Go.wp_at_succ

theorem Rng.grown_ {w w' : World} {b r n cnt : Nat} {D : DataW Unit} {left : Lit → Bool} {row : Option Nat} (h : Rng w b r n D left cnt) (hg : w.grownBy w' row) (h1 : row ≠ some b) (h2 : row ≠ some r) : Rng w' b r n D left cnt :=
  h.blocks (hg.block b h.owns.lt (fun e => h1 e.symm)) (hg.block r h.lt (fun e => h2 e.symm))

set_option maxHeartbeats 3200000 in
set_option maxRecDepth 100000 in
theorem gbarrier_any (w : World) (base p n : Nat) (F : Nat → Prop) (nu : Int) (s : List It) (h : Gn w base F p nu n s) (hi : GInv s) (hF : ∀ g, F g → g < w.heap.size) :
    Calls Try.prog 91 #[.pointer (some ⟨p, 0, none⟩)] w fun e w' => ∃ A c, e = .returned (.slice A (barI s).length c) ∧ Own w' w.heap.size 3 A c (barI s) ∧ Below w.heap.size w w' := by
  obtain ⟨ti, hii, hz0, hz1, hz2⟩ := info_parts infoInt
  obtain ⟨b, D, h1, h2, h3, h4, h5, h6⟩ := h
  obtain ⟨N, hN⟩ : ∃ N, s.length = N := ⟨_, rfl⟩
  have hN100 : N ≤ 100 := by have := hi.small; omega
  obtain ⟨A, c, h1⟩ := h1
  have p2 := h1.top.2.1
  have hplt := (show HpG w base F p nu b s from ⟨A, c, h1⟩).lt.1
  have hblt := h2.lt
  have heg : ∀ args w, (callFunc 161 args).run Try.prog w = .ok (.enter 161 args) w := enters_of Try.func161 (by kernel_rfl) rfl
  have H := Lib.hid (And.intro h1 (And.intro h2 (And.intro hi (And.intro h5 (And.intro h6 (And.intro hN (And.intro hF heg))))))); clear h1 h2 h5 h6 hi hN hF heg
  go_enter Try.func91, Try.ntmps91
  go_wp2_with (at_range; go_must (refine wpList_range_nums rfl (.tmp 8) 166 167 rfl Try.underlying166 rfl H.out.2.1 ?_); intro w0 hrg0 hg0 hs0)
  have hb0 : Below w.heap.size w w0 := (Below.refl _ _).grown hg0 (by omega) (fun g hg => by cases hg)
  have HG := Lib.hid (And.intro hrg0 hb0); clear hrg0 hg0 hb0 p2
  go_frame
  go_loopg [3, 4] (Maps.size D) (fun gk ov nv wq => ∃ (left : Lit → Bool) (cnt m : Nat) (A1 : Option Addr) (c1 : Nat) (l : List Int), gk = cnt ∧ ov = .slice A1 m c1 ∧ Hid (Rng wq b w.heap.size n D left cnt ∧ Own wq (w.heap.size + 1) 3 A1 c1 l ∧ BarL s (inSet D) (fun i => left (.int .i64 (i : Int)) = true) l ∧ l.length = m) ∧ Below w.heap.size w wq ∧ w.heap.size < wq.heap.size)
  case atStart => exact ⟨_, _, 0, none, 0, [], rfl, rfl, ⟨HG.out.1, Own.nil_, BarL.start (fun i hi => hi), rfl⟩, HG.out.2, by omega⟩
  case round =>
    obtain ⟨left, cnt, m, A1, c1, l, rfl, rfl, hkeep, hbl2, hsz2⟩ := hrel
    have hm : m ≤ N := by have := hkeep.out.2.2.1.length (fun i hi => stAt_lt (H.out.2.2.2.1.old i hi)); have := hkeep.out.2.2.2; have := H.out.2.2.2.2.2.1; omega
    go_wp2_with (at_next; go_must (refine wpList_next_nums rfl (.tmp 9) rfl rfl hkeep.out.1 ?_ ?_))
    · intro _ hl0
      have hfin := hkeep.out.2.2.1.fin H.out.2.2.2.1 (fun i e => by rw [hl0] at e; cases e)
      have hcall := sort_own wr (w.heap.size + 1) m A1 c1 l hkeep.out.2.2.2 (by omega) hkeep.out.2.1
      rw [hfin] at hcall
      have hlen : (barI s).length = m := by rw [← hfin, List.length_mergeSort, hkeep.out.2.2.2]
      have HC := Lib.hid (And.intro hcall (And.intro hlen hkeep.out.2.1)); clear hcall hlen hfin hkeep hl0
      go_wp2_with fail
      refine HC.out.1.mono ?_
      rintro e w2 ⟨rfl, hown, hgr⟩
      have hb2 : Below w.heap.size w w2 := hbl2.grown hgr (by omega) (fun g hg => by have := (HC.out.2.2.lt g hg).1; omega)
      have HR := Lib.hid (And.intro hown hb2); clear hown hgr hb2
      go_wp2_with fail
      go_ret
      exact ⟨A1, c1, by rw [HC.out.2.1]; rfl, HR.out.1.base_le (by omega), HR.out.2⟩
    · intro x w1 cnt1 hlx hhx hrg1 hlt1 hg1 hs1 hen
      obtain ⟨i, hix⟩ := H.out.2.2.2.2.1 _ hhx
      injection hix with _ hix
      subst hix
      have hst1 := H.out.2.2.2.1.old i hhx
      obtain ⟨xi, hx⟩ : ∃ xi, s[i]? = some xi := ⟨_, (get_stAt hst1).choose_spec.1⟩
      obtain ⟨xh, xs, xb⟩ := xi
      have hb1 : Below w.heap.size w w1 := hbl2.grown hg1 (by omega) (fun g hg => by injection hg with hg; omega)
      have hA1 := H.out.1.fresh hb1
      obtain ⟨g, XA, xc, rfl, e0, e1, e2, e3, e4, e5, e6⟩ := hA1.get hx
      simp only at e0 e3 e5
      have p1 := hA1.top.1
      rw [H.out.2.2.2.2.2.1] at p1
      have i0 : (0 : Int) ≤ (i : Int) := by omega
      have i1 : (i : Int) < (N : Int) := by have := stAt_lt hst1; have := H.out.2.2.2.2.2.1; omega
      have hx10 : xh.length ≤ 10 := H.out.2.2.1.long _ (List.mem_of_getElem? hx)
      have hown1 := hkeep.out.2.1.grown hg1 (fun g hg e => by have := (hkeep.out.2.1.lt g hg).1; injection e with e; omega)
      obtain ⟨xn, hxn⟩ : ∃ xn, xh.length = xn := ⟨_, rfl⟩
      have hcall := containsFuncM_any XA xc w1.heap.size 161 xn (.pointer (some ⟨p, 0, none⟩)) (isYg s) xh w1 hxn (e3.at_ e5) (by omega) H.out.2.2.2.2.2.2.2 (fun y hy => isYoung_any w1 base p b F nu y s ⟨_, _, hA1⟩ (by
        rcases H.out.2.2.1.refs _ (List.mem_of_getElem? hx) y hy with e | ⟨k, e, h1, -⟩
        · exact .inl (by omega)
        · exact .inr ⟨k, e, h1⟩) (by have := H.out.2.2.2.2.2.1; omega))
      have hleft : ∀ j : Nat, (left (.int .i64 (j : Int)) && !(Lit.int .i64 (j : Int)).sameKey (.int .i64 (i : Int))) = true ↔ left (.int .i64 (j : Int)) = true ∧ j ≠ i := fun j => by
        by_cases e : j = i
        · subst e; simp [Lit.sameKey]
        · have hne : (Lit.int .i64 (j : Int)).sameKey (.int .i64 (i : Int)) = false := sameKey_ne (fun e2 => by injection e2 with _ e2; omega)
          simp [hne, e]
      rw [hxn] at e0
      obtain ⟨an, han⟩ : ∃ an, xh.any (isYg s) = an := ⟨_, rfl⟩
      rw [han] at hcall
      cases an with
      | false =>
        have hbar := hkeep.out.2.2.1.skip hx han hleft
        have HC := Lib.hid (And.intro hcall (And.intro hrg1 (And.intro hown1 (And.intro hbar (And.intro hkeep.out.2.2.2 hb1))))); clear hcall hrg1 hown1 hbar hb1 hkeep hx hst1 e3 e4 e5 e1 e2 hA1 hg1 hlx hhx hx10 hxn hleft han
        go_wp2_with fail
        refine HC.out.1.mono ?_
        rintro e w2 ⟨rfl, rfl⟩
        go_wp2_with fail
        go_roundg cnt1
        case measure => exact hlt1
        case rel => exact ⟨_, cnt1, m, A1, c1, l, rfl, rfl, ⟨HC.out.2.1, HC.out.2.2.1, HC.out.2.2.2.1, HC.out.2.2.2.2.1⟩, HC.out.2.2.2.2.2, by omega⟩
      | true =>
        have hbar := hkeep.out.2.2.1.take hhx hlx hx han hleft
        have HC := Lib.hid (And.intro hcall (And.intro hrg1 (And.intro hown1 (And.intro hbar (And.intro hkeep.out.2.2.2 hb1))))); clear hcall hrg1 hown1 hbar hb1 hkeep hx hst1 e3 e4 e5 e1 e2 hA1 hg1 hlx hhx hx10 hxn hleft han
        go_wp2_with fail
        refine HC.out.1.mono ?_
        rintro e w2 ⟨rfl, rfl⟩
        go_wp2_with (at_builtin; go_must (refine wpList_app (α := Int) (n := m) (m := 1) (B := w1.heap.size + 1) (r := [(i : Int)]) rfl (.tmp 25) (.tmp 27) _ rfl (w.heap.size + 1) 3 ti _ 8 Try.underlying47 hii hz0 hz1 hz2 rfl (by decide) int_one (by rfl) HC.out.2.2.2.2.1 (HC.out.2.2.1.alloc _) (by rfl) ?_ rfl (by omega) (by simp only [maxLen]; omega) (by simp; omega) ?_))
        · have := At.built w1 #[.int .i64 (i : Int)] 3 [(i : Int)] rfl (by intro z hz; simp at hz; subst hz; exact (by unfold I64; omega : I64 (i : Int)))
          simpa [hs1] using this
        intro A2 c2 w2 hown2 hgr2 hat2
        have hbl3 : Below w.heap.size w w2 := (HC.out.2.2.2.2.2.alloc (by omega) _).grown hgr2 (by simp; omega) (fun g hg => by have := (HC.out.2.2.1.lt g hg).1; omega)
        have hrg2 := (HC.out.2.1.fresh ((Below.refl _ _).alloc (Nat.le_refl _) (.cells #[.int .i64 (i : Int)] 3))).grown_ hgr2 (HC.out.2.1.owns.own_ne HC.out.2.2.1) (HC.out.2.1.own_ne HC.out.2.2.1)
        have hsz3 := hgr2.size
        have HO := Lib.hid (And.intro hown2 (And.intro hbl3 hrg2)); clear hown2 hgr2 hat2 hbl3 hrg2
        go_wp2_with fail
        go_roundg cnt1
        case measure => exact hlt1
        case rel => exact ⟨_, cnt1, m + 1, A2, c2, _, rfl, rfl, ⟨HO.out.2.2, HO.out.1, HC.out.2.2.2.1, by rw [List.length_append, HC.out.2.2.2.2.1]; rfl⟩, HO.out.2.1, by simp at hsz3; omega⟩

end Go.Proofs.Ytpkccpegdpodoaa

/- gens: make. -/
namespace Go.Proofs.Ytpkccpegdpodoaa
open Go.RowKit Go.Maps Go.WideShapes

attribute [local go_sem ↓] Go.wp_at_zero Go.wp_at_succ

theorem gmake_no (w : World) (base p b : Nat) (F : Nat → Prop) (nu n : Int) (s : List It) (h : HpG w base F p nu b s) (hs : s.length ≤ 1000) (he : newE s n ≠ 0) :
    Calls Try.prog 154 #[.pointer (some ⟨p, 0, none⟩), .int .i64 n] w fun e w' => e = .returned (.tuple #[.int .i64 0, .int .i64 (newE s n)]) ∧ w = w' := by
  obtain ⟨A, c, l, h1, h2, h3, h4, h5⟩ := h
  have hl : s.length = l.length := by rw [← h5, its_length]
  have c0 := h1.cell 1 (v := .slice A l.length c) rfl
  rw [hl] at hs
  have HL := Lib.hid (And.intro hl he); clear h1 h2 h3 h5 hl he
  by_cases h1 : n < 0
  · have HE := Lib.hid (show newE s n = 1 from if_pos (.inl h1))
    go_enter Try.func154, Try.ntmps154
    go_wp2
    go_ret2
    exact ⟨by rw [HE.out]; rfl, rfl⟩
  · by_cases h2 : 10 < n
    · have HE := Lib.hid (show newE s n = 1 from if_pos (.inr h2))
      go_enter Try.func154, Try.ntmps154
      go_wp2
      go_ret2
      exact ⟨by rw [HE.out]; rfl, rfl⟩
    · have h3 : 100 ≤ l.length := by
        have := HL.out.2
        unfold newE at this
        rw [if_neg (by omega)] at this
        have hq := HL.out.1
        split at this <;> omega
      have HE := Lib.hid (show newE s n = 2 by unfold newE; rw [if_neg (by omega), if_pos (by rw [HL.out.1]; exact h3)])
      go_enter Try.func154, Try.ntmps154
      go_wp2
      go_ret2
      exact ⟨by rw [HE.out]; rfl, rfl⟩

theorem young_any (w : World) (base p b : Nat) (F : Nat → Prop) (nu : Int) (s : List It) (h : HpG w base F p nu b s) (hs : s.length ≤ 100) :
    Calls Try.prog 89 #[.pointer (some ⟨p, 0, none⟩)] w fun e w' => ∃ A c, e = .returned (.slice A (are s 0).length c) ∧ Own w' w.heap.size 3 A c (are s 0) ∧ Below w.heap.size w w' := by
  have hc := hare_any w base p F nu 0 b s h hs
  obtain ⟨n, hn⟩ : ∃ n, (are s 0).length = n := ⟨_, rfl⟩
  rw [hn] at hc ⊢
  have HC := Lib.hid hc; clear hc hn h
  go_enter Try.func89, Try.ntmps89
  go_wp2_with fail
  refine HC.out.mono ?_
  rintro e w1 ⟨A, c, rfl, ho, hb⟩
  have HO := Lib.hid (And.intro ho hb); clear ho hb
  go_wp2_with fail
  go_ret
  exact ⟨A, c, rfl, HO.out.1, HO.out.2⟩

theorem infoGThing : (Try.prog.info? 206).map (fun i => (i.zero, i.size, i.bytes)) = some (some (.agg #[.slice none 0 0, .int .i64 0, .bool false]), 3, 40) := by kernel_rfl

/-- room is made -/
def RoomSt (w V : World) (base : Nat) (F : Nat → Prop) (p : Nat) (nu : Int) (n : Nat) (s : List It) : Prop := Gn V base F p nu n s ∧ Touch F w V

set_option maxHeartbeats 3200000 in
set_option maxRecDepth 100000 in
theorem gmake_yes (w : World) (base p m : Nat) (F : Nat → Prop) (nu n : Int) (s : List It) (h : Gn w base F p nu m s) (hi : GInv s) (hF : ∀ g, F g → g < w.heap.size) (he : newE s n = 0) :
    Calls Try.prog 154 #[.pointer (some ⟨p, 0, none⟩), .int .i64 n] w fun e w' => e = .returned (.tuple #[.int .i64 s.length, .int .i64 0]) ∧ Gn w' base (Up F w w') p nu m (roomI nu s ++ [newI 0 n]) ∧ Touch F w w' := by
  obtain ⟨i0, hi0, hz0, hz1, hz2⟩ := info_parts infoGThing
  obtain ⟨e1, e2, e3⟩ := newE_ok he
  obtain ⟨L, hL⟩ : ∃ L, s.length = L := ⟨_, rfl⟩
  rw [hL] at e3 ⊢
  obtain ⟨j, rfl⟩ := Int.eq_ofNat_of_zero_le e1
  have d1 : ¬ (j : Int) < 0 := by omega
  have d2 : ¬ (10 : Int) < (j : Int) := by omega
  have d3 : ¬ (100 : Int) ≤ (L : Int) := by omega
  have HG := Lib.hid (And.intro h (And.intro hi (And.intro hF hL)))
  obtain ⟨b, D, ⟨A, c, hA⟩, h2, h3, h4, h5, h6⟩ := h
  obtain ⟨c1, -, c0⟩ := hA.top
  rw [hL] at c1
  have hplt := (show HpG w base F p nu b s from ⟨A, c, hA⟩).lt.1
  have hym := young_any w.drew base p b F nu s (HpG.drewN ⟨A, c, hA⟩ 1) hi.small
  obtain ⟨y, hy⟩ : ∃ y, (are s 0).length = y := ⟨_, rfl⟩
  rw [hy] at hym
  have hy100 : y ≤ 100 := by have := are_len s 0; omega
  have HY := Lib.hid (And.intro hym hy); clear hym hy hA h2 h5 h6 hi hF hL he
  go_enter Try.func154, Try.ntmps154
  go_upto_region 5 with fail
  go_cut [20] from 20 to 28 (fun ov V => ov = .bool (decide (nu ≤ (y : Int))) ∧ Below w.heap.size w V)
  case first =>
    refine wp_region_held_drew (S := (fun w' => w'.cell? ⟨p, 0, none⟩ = some (.int .i64 nu))) (by kernel_rfl) ?_ (fun hHeld0 => ?_)
    · first | trivial | ((try dsimp only); (exact c0))
    refine held_take (v := ?_) 0 rfl (by kernel_rfl) (by kernel_rfl) (by kernel_rfl) (fun _ _ _ h => h) (by rfl) ?_ (by assumption) ?_
    rotate_left
    · (intro w hSw; (try dsimp only at hSw); go_simp; try with_reducible rfl)
    try simp only [Act.put, List.setIfInBounds_toArray, List.set_cons_zero, List.set_cons_succ]
    refine held_take (v := ?_) 3 rfl (by kernel_rfl) (by kernel_rfl) (by kernel_rfl) (fun _ _ _ h => h) (by rfl) ?_ (by assumption) ?_
    rotate_left
    · (intro w hSw; (try dsimp only at hSw); go_simp; try with_reducible rfl)
    try simp only [Act.put, List.setIfInBounds_toArray, List.set_cons_zero, List.set_cons_succ]
    refine held_take (v := ?_) 4 rfl (by kernel_rfl) (by kernel_rfl) (by kernel_rfl) (fun _ _ _ h => h) (by rfl) ?_ (by assumption) ?_
    rotate_left
    · (intro w hSw; (try dsimp only at hSw); go_simp; try with_reducible rfl)
    try simp only [Act.put, List.setIfInBounds_toArray, List.set_cons_zero, List.set_cons_succ]
    refine held_take (v := ?_) 5 rfl (by kernel_rfl) (by kernel_rfl) (by kernel_rfl) (fun _ _ _ h => h) (by rfl) ?_ (by assumption) ?_
    rotate_left
    · (intro w hSw; (try dsimp only at hSw); go_simp; try with_reducible rfl)
    try simp only [Act.put, List.setIfInBounds_toArray, List.set_cons_zero, List.set_cons_succ]
    refine held_take (v := ?_) 6 rfl (by kernel_rfl) (by kernel_rfl) (by kernel_rfl) (fun _ _ _ h => h) (by rfl) ?_ (by assumption) ?_
    rotate_left
    · (intro w hSw; (try dsimp only at hSw); go_simp; try with_reducible rfl)
    try simp only [Act.put, List.setIfInBounds_toArray, List.set_cons_zero, List.set_cons_succ]
    refine held_call 1 (by kernel_rfl) rfl (fun K hK => ?_)
    go_simp
    go_at_call 89; refine HY.out.1.mono ?_; rintro e w1 ⟨YA, yc, rfl, -, hb1⟩; have hs1 := hb1.size; have k0 := (hb1.cell (p := ⟨p, 0, none⟩) hplt).trans c0; have HB1 := Lib.hid (undrew hb1); clear hb1
    try (go_wp2_with fail)
    refine hK.out _ _ ?_ (fun hHeld1 => ?_)
    · first | trivial | ((try dsimp only); (exact k0))
    clear hK K hHeld0
    try simp only [Act.put, List.setIfInBounds_toArray, List.set_cons_zero, List.set_cons_succ]
    refine held_take (v := ?_) 2 rfl (by kernel_rfl) (by kernel_rfl) (by kernel_rfl) (fun _ _ _ h => h) (by rfl) ?_ (by assumption) ?_
    rotate_left
    · (intro w hSw; (try dsimp only at hSw); go_simp; try with_reducible rfl)
    try simp only [Act.put, List.setIfInBounds_toArray, List.set_cons_zero, List.set_cons_succ]
    refine held_take (v := ?_) 7 rfl (by kernel_rfl) (by kernel_rfl) (by kernel_rfl) (fun _ _ _ h => h) (by rfl) ?_ (by assumption) ?_
    rotate_left
    · (intro w hSw; (try dsimp only at hSw); go_simp; try with_reducible rfl)
    try simp only [Act.put, List.setIfInBounds_toArray, List.set_cons_zero, List.set_cons_succ]
    refine held_take (v := ?_) 8 rfl (by kernel_rfl) (by kernel_rfl) (by kernel_rfl) (fun _ _ _ h => h) (by rfl) ?_ (by assumption) ?_
    rotate_left
    · (intro w hSw; (try dsimp only at hSw); go_simp; try with_reducible rfl)
    try simp only [Act.put, List.setIfInBounds_toArray, List.set_cons_zero, List.set_cons_succ]
    refine wpAnyH_done (by kernel_rfl) ?_ _
    go_wp2_with fail
    go_meet
    exact ⟨rfl, HB1.out⟩
  case rest =>
    obtain ⟨rfl, hbc⟩ := hcut
    clear c0 c1
    by_cases hge : nu ≤ (y : Int)
    have hroom : roomI nu s = minorI s := by unfold roomI; rw [HY.out.2, if_pos hge]
    have HB := Lib.hid (And.intro hroom hbc); clear hroom hbc
    go_wp2_with fail
    refine (minor_any wc base p m F nu s (HG.out.1.fresh HB.out.2) HG.out.2.1 (fun g hg => by have := HG.out.2.2.1 g hg; have := HB.out.2.size; omega)).mono ?_
    rintro e w2 ⟨rfl, g2, hT2⟩
    have HM := Lib.hid (show RoomSt w w2 base F p nu m (roomI nu s) from ⟨by rw [HB.out.1]; exact g2.more (Nat.zero_le m), (Touch.ofBelow HB.out.2).trans hT2⟩); clear g2 hT2
    go_upto_region 7 with fail
    refine wp_world (fun V => RoomSt w V base F p nu m (roomI nu s)) HM.out ?_
    rotate_left
    have hroom : roomI nu s = s := by unfold roomI; rw [HY.out.2, if_neg (by omega)]
    have HM := Lib.hid (show RoomSt w wc base F p nu m (roomI nu s) from ⟨by rw [hroom]; exact HG.out.1.fresh hbc, Touch.ofBelow hbc⟩); clear hbc hroom
    go_upto_region 7 with fail
    refine wp_world (fun V => RoomSt w V base F p nu m (roomI nu s)) HM.out ?_
    all_goals
      clear HM
      rintro V ⟨hV, hTV⟩
      have hsz := hTV.size
      obtain ⟨s2, hs2⟩ : ∃ s2, roomI nu s = s2 := ⟨_, rfl⟩
      have hi2 := HG.out.2.1.room nu
      have hl2 := roomI_length nu s
      rw [hs2] at hV hi2 hl2
      obtain ⟨b', D', ⟨A, c, l, k1, k2, k3, k4, k5⟩, t2, t3, t4, t5, t6⟩ := hV
      have hlL : l.length = L := by rw [← its_length, k5, hl2]; exact HG.out.2.2.2
      rw [hlL] at k1
      have c1 := k1.cell 1 (v := .slice A L c) rfl
      have hpV := k1.lt
      have hAt : At (V.drew.alloc (.cells #[.int .i64 (-1)] 3)) (V.heap.size + 1) (some ⟨V.heap.size, 0, none⟩) [(-1 : Int)] := At.built V.drew #[.int .i64 (-1)] 3 [(-1 : Int)] rfl (by intro z hz; simp at hz; subst hz; exact (by unfold I64; omega : I64 (-1)))
      have hrep := repeatInt_any (some ⟨V.heap.size, 0, none⟩) 1 (V.heap.size + 1) j (-1) (V.drew.alloc (.cells #[.int .i64 (-1)] 3)) hAt (by simp) (by simp) (by omega)
      have HP := Lib.hid (And.intro hrep (And.intro k1 (And.intro k2 (And.intro hlL k5))))
      have HQ := Lib.hid (And.intro k3 (And.intro k4 (And.intro t2 (And.intro t3 (And.intro t4 (And.intro t5 (And.intro hi2 (And.intro t6 hTV))))))))
      have HS := Lib.hid hs2
      clear hrep k1 k2 k3 k5 t2 t3 t4 t5 t6 hi2 hTV hs2 hlL hl2 hAt
      refine wp_region_held_drew (S := (fun w' => True)) (by kernel_rfl) ?_ (fun hHeld0 => ?_)
      · first | trivial | ((try dsimp only); (trivial))
      refine held_take (v := ?_) 0 rfl (by kernel_rfl) (by kernel_rfl) (by kernel_rfl) (fun _ _ _ h => h) (by rfl) ?_ (by assumption) ?_
      rotate_left
      · (intro w hSw; (try dsimp only at hSw); go_simp; try with_reducible rfl)
      try simp only [Act.put, List.setIfInBounds_toArray, List.set_cons_zero, List.set_cons_succ]
      refine held_take (v := ?_) 1 rfl (by kernel_rfl) (by kernel_rfl) (by kernel_rfl) (fun _ _ _ h => h) (by rfl) ?_ (by assumption) ?_
      rotate_left
      · (intro w hSw; (try dsimp only at hSw); go_simp; try with_reducible rfl)
      try simp only [Act.put, List.setIfInBounds_toArray, List.set_cons_zero, List.set_cons_succ]
      refine held_take (v := ?_) 2 rfl (by kernel_rfl) (by kernel_rfl) (by kernel_rfl) (fun _ _ _ h => h) (by rfl) ?_ (by assumption) ?_
      rotate_left
      · (intro w hSw; (try dsimp only at hSw); go_simp; try with_reducible rfl)
      try simp only [Act.put, List.setIfInBounds_toArray, List.set_cons_zero, List.set_cons_succ]
      refine held_take (v := ?_) 3 rfl (by kernel_rfl) (by kernel_rfl) (by kernel_rfl) (fun _ _ _ h => h) (by rfl) ?_ (by assumption) ?_
      rotate_left
      · (intro w hSw; (try dsimp only at hSw); go_simp; try with_reducible rfl)
      try simp only [Act.put, List.setIfInBounds_toArray, List.set_cons_zero, List.set_cons_succ]
      refine held_take (v := ?_) 6 rfl (by kernel_rfl) (by kernel_rfl) (by kernel_rfl) (fun _ _ _ h => h) (by rfl) ?_ (by assumption) ?_
      rotate_left
      · (intro w hSw; (try dsimp only at hSw); go_simp; try with_reducible rfl)
      try simp only [Act.put, List.setIfInBounds_toArray, List.set_cons_zero, List.set_cons_succ]
      refine held_call2 4 5 (by kernel_rfl) rfl rfl (fun K hK => ?_) (fun K hK => ?_)
      · go_simp
        skip
        refine hK.out _ _ ?_ (fun hHeld1 => ?_)
        · first | trivial | ((try dsimp only); (trivial))
        clear hK K hHeld0
        try simp only [Act.put, List.setIfInBounds_toArray, List.set_cons_zero, List.set_cons_succ]
        refine held_call 5 (by kernel_rfl) rfl (fun K hK => ?_)
        go_simp
        skip
        refine hK.out _ _ ?_ (fun hHeld2 => ?_)
        · first | trivial | ((try dsimp only); (trivial))
        clear hK K hHeld1
        try simp only [Act.put, List.setIfInBounds_toArray, List.set_cons_zero, List.set_cons_succ]
        refine held_call 7 (by kernel_rfl) rfl (fun K hK => ?_)
        go_simp
        go_at_call 171; refine HP.out.1.mono ?_; rintro e w1 ⟨rfl, ho1, hb1⟩; simp only [World.size_alloc, World.size_drew] at ho1 hb1; have hs1 := hb1.size; simp only [World.size_alloc, World.size_drew] at hs1; have hb01 : Below V.heap.size V w1 := undrew (((Below.refl V.heap.size V.drew).alloc (Nat.le_refl _) _).trans (hb1.mono (by omega))); have k1 := (hb01.cell (p := ⟨p, 1, none⟩) hpV).trans c1; have m1 := HP.out.2.1.fresh hb01; have m2 := HP.out.2.2.1.fresh hb01; have hpw := m1.lt; have HW := Lib.hid (And.intro ho1 (And.intro hb01 (And.intro m1 m2))); clear ho1 hb1 hb01 m1 m2
        try (go_wp2_with fail)
        refine hK.out _ _ ?_ (fun hHeld3 => ?_)
        · first | trivial | ((try dsimp only); (trivial))
        clear hK K hHeld2
        try simp only [Act.put, List.setIfInBounds_toArray, List.set_cons_zero, List.set_cons_succ]
        refine held_take (v := ?_) 8 rfl (by kernel_rfl) (by kernel_rfl) (by kernel_rfl) (fun _ _ _ h => h) (by rfl) ?_ (by assumption) ?_
        rotate_left
        · (intro w hSw; (try dsimp only at hSw); go_simp; try with_reducible rfl)
        try simp only [Act.put, List.setIfInBounds_toArray, List.set_cons_zero, List.set_cons_succ]
        refine held_call 9 (by kernel_rfl) rfl (fun K hK => ?_)
        go_simp
        skip
        refine hK.out _ _ ?_ (fun hHeld4 => ?_)
        · first | trivial | ((try dsimp only); (trivial))
        clear hK K hHeld3
        try simp only [Act.put, List.setIfInBounds_toArray, List.set_cons_zero, List.set_cons_succ]
        refine held_call 10 (by kernel_rfl) rfl (fun K hK => ?_)
        refine step_app (α := ItR) (n := L) (m := 1) (nm := L + 1) (r := [⟨some ⟨V.heap.size + 1, 0, none⟩, j, List.replicate j (-1), 0, true⟩]) (by rfl) (.tmp 35) (.tmp 40) _ (by rfl) base 206 i0 _ 40 Try.underlying202 hi0 hz0 hz1 hz2 rfl (by decide) itr_one (by rfl) HP.out.2.2.2.1 (HW.out.2.2.2.row.alloc (.cells #[.slice (some ⟨V.heap.size + 1, 0, none⟩) j j, .int .i64 0, .bool true] 206)) (B := w1.heap.size + 1) (X := some ⟨w1.heap.size, 0, none⟩) (d := 1) (by rfl) (At.built w1 #[.slice (some ⟨V.heap.size + 1, 0, none⟩) j j, .int .i64 0, .bool true] 206 [(⟨some ⟨V.heap.size + 1, 0, none⟩, j, List.replicate j (-1), 0, true⟩ : ItR)] (by simp [flat, Flat.cells]) (fun _ _ => trivial)) rfl rfl (by omega) (by simp only [maxLen]; omega) (by simp; omega) ?_; intro A3 c3 w3 ho3 hgr3 hat3; have hs3 := hgr3.size; simp only [World.size_alloc] at hs3; have n1 := (HW.out.2.2.1.alloc (.cells #[.slice (some ⟨V.heap.size + 1, 0, none⟩) j j, .int .i64 0, .bool true] 206)).grown hgr3 (fun e => own_ne_ty (HW.out.2.2.2.row.alloc (.cells #[.slice (some ⟨V.heap.size + 1, 0, none⟩) j j, .int .i64 0, .bool true] 206)) (HW.out.2.2.1.alloc (.cells #[.slice (some ⟨V.heap.size + 1, 0, none⟩) j j, .int .i64 0, .bool true] 206)) (by decide) e); have z2 := n1.frozen 1; have mc := n1.cell 1 (v := .slice A L c) rfl
        refine hK.out _ _ ?_ (fun hHeld5 => ?_)
        · first | trivial | ((try dsimp only); (trivial))
        clear hK K hHeld4
        try simp only [Act.put, List.setIfInBounds_toArray, List.set_cons_zero, List.set_cons_succ]
        refine held_take (v := ?_) 11 rfl (by kernel_rfl) (by kernel_rfl) (by kernel_rfl) (fun _ _ _ h => h) (by rfl) ?_ (by assumption) ?_
        rotate_left
        · (intro w hSw; (try dsimp only at hSw); go_simp; try with_reducible rfl)
        try simp only [Act.put, List.setIfInBounds_toArray, List.set_cons_zero, List.set_cons_succ]
        refine held_take (v := ?_) 12 rfl (by kernel_rfl) (by kernel_rfl) (by kernel_rfl) (fun _ _ _ h => h) (by rfl) ?_ (by assumption) ?_
        rotate_left
        · (intro w hSw; (try dsimp only at hSw); go_simp; try with_reducible rfl)
        try simp only [Act.put, List.setIfInBounds_toArray, List.set_cons_zero, List.set_cons_succ]
        refine held_call 13 (by kernel_rfl) rfl (fun K hK => ?_)
        go_simp
        skip
        refine hK.out _ _ ?_ (fun hHeld6 => ?_)
        · first | trivial | ((try dsimp only); (trivial))
        clear hK K hHeld5
        try simp only [Act.put, List.setIfInBounds_toArray, List.set_cons_zero, List.set_cons_succ]
        refine wpAnyH_done (by kernel_rfl) ?_ _
        have HZ := Lib.hid (And.intro n1 (And.intro ho3 (And.intro hgr3 hat3))); clear n1 ho3 hgr3 hat3 mc k1 c1
        go_upto_region 8 with fail
        refine wp_world (fun U => Hid (Gn U base (Up F w w3) p nu m (s2 ++ [newI 0 (j : Int)]) ∧ Touch F w U) ∧ U.cell? ⟨p, 1, none⟩ = some (.slice A3 (L + 1) c3) ∧ U.heap.size = w3.heap.size) ⟨⟨?_, ?_⟩, (HZ.out.1.set_ 1 _).cell 1 rfl, by simp⟩ ?_
        · obtain ⟨k1, k2, k3, k4, k5, k6, k7, k8, k9⟩ := HQ.out
          refine ⟨b', D', ⟨A3, c3, _, ?_, ((HW.out.2.2.2.alloc (.cells #[.slice (some ⟨V.heap.size + 1, 0, none⟩) j j, .int .i64 0, .bool true] 206)).push (F' := Up F w w3) (by decide) HZ.out.2.1 HZ.out.2.2.1 HZ.out.2.2.2 (fun g hg => .inl hg) (fun g hg => ?_) ((HW.out.1.base_le (by omega : base ≤ V.heap.size + 1)).alloc (.cells #[.slice (some ⟨V.heap.size + 1, 0, none⟩) j j, .int .i64 0, .bool true] 206)) (fun g hg => ?_) (fun k hk => by rw [(List.mem_replicate.1 hk).2]; unfold I64; omega) (by show I64 0; unfold I64; omega)).far_blk HZ.out.1 (by decide) (by decide) _ _, .inl k1, k2, ?_⟩, ?_, .inl k4, k5, k6.push k7 _, k8⟩
          · have := HZ.out.1.set_ 1 (.slice A3 (L + 1) c3)
            rw [List.length_append, HP.out.2.2.2.1]; exact this
          · rcases HZ.out.2.2.2 with e | e
            · exact .inl (HW.out.2.2.2.foot g (by rw [← e]; exact hg))
            · have hg0 := (HZ.out.2.1.lt g hg).2; rw [e] at hg; injection hg with hg; simp at hg; exact .inr ⟨by omega, hg0⟩
          · injection hg with hg; simp only at hg
            subst hg
            exact ⟨.inr ⟨by omega, by omega⟩, fun e => by have := HG.out.2.2.1 _ e; omega⟩
          · show its (l ++ [_]) = _
            unfold its; rw [List.map_append]
            have := HP.out.2.2.2.2
            unfold its at this
            rw [this]; simp [ItR.it, newI]
          · have t1 := (k3.fresh HW.out.2.1).fresh ((Below.refl _ _).alloc (Nat.le_refl _) (.cells #[.slice (some ⟨V.heap.size + 1, 0, none⟩) j j, .int .i64 0, .bool true] 206))
            have t2 : Set_ w3 b' m D' := World.ownsMap.kept t1 HZ.out.2.2.1 (fun e => t1.own_ne (HW.out.2.2.2.row.alloc (.cells #[.slice (some ⟨V.heap.size + 1, 0, none⟩) j j, .int .i64 0, .bool true] 206)) e.symm)
            exact t2.far (fun e => t2.blk_ne HZ.out.1 e.symm) _
        · exact (((HQ.out.2.2.2.2.2.2.2.2.trans (Touch.ofBelow HW.out.2.1)).alloc (.cells #[.slice (some ⟨V.heap.size + 1, 0, none⟩) j j, .int .i64 0, .bool true] 206)).grown HZ.out.2.2.1 (fun g hg => HW.out.2.2.2.foot g hg)).setCell HQ.out.1 _
        rintro U ⟨hU, v0, hUs⟩
        go_wp2_with fail
        go_ret2
        exact ⟨by first | rfl | (congr 3; omega), by rw [HS.out]; obtain ⟨b1, D1, q1, q2, q3, q4⟩ := hU.out.1; exact ⟨b1, D1, q1.mono (fun g hg => Up.more (w1 := w3) (by omega) hg), q2, Up.more (w1 := w3) (by omega) q3, q4⟩, hU.out.2⟩
      · go_simp
        skip
        refine hK.out _ _ ?_ (fun hHeld1 => ?_)
        · first | trivial | ((try dsimp only); (trivial))
        clear hK K hHeld0
        try simp only [Act.put, List.setIfInBounds_toArray, List.set_cons_zero, List.set_cons_succ]
        refine held_call2 4 7 (by kernel_rfl) rfl rfl (fun K hK => ?_) (fun K hK => ?_)
        · go_simp
          skip
          refine hK.out _ _ ?_ (fun hHeld2 => ?_)
          · first | trivial | ((try dsimp only); (trivial))
          clear hK K hHeld1
          try simp only [Act.put, List.setIfInBounds_toArray, List.set_cons_zero, List.set_cons_succ]
          refine held_call 7 (by kernel_rfl) rfl (fun K hK => ?_)
          go_simp
          go_at_call 171; refine HP.out.1.mono ?_; rintro e w1 ⟨rfl, ho1, hb1⟩; simp only [World.size_alloc, World.size_drew] at ho1 hb1; have hs1 := hb1.size; simp only [World.size_alloc, World.size_drew] at hs1; have hb01 : Below V.heap.size V w1 := undrew (((Below.refl V.heap.size V.drew).alloc (Nat.le_refl _) _).trans (hb1.mono (by omega))); have k1 := (hb01.cell (p := ⟨p, 1, none⟩) hpV).trans c1; have m1 := HP.out.2.1.fresh hb01; have m2 := HP.out.2.2.1.fresh hb01; have hpw := m1.lt; have HW := Lib.hid (And.intro ho1 (And.intro hb01 (And.intro m1 m2))); clear ho1 hb1 hb01 m1 m2
          try (go_wp2_with fail)
          refine hK.out _ _ ?_ (fun hHeld3 => ?_)
          · first | trivial | ((try dsimp only); (trivial))
          clear hK K hHeld2
          try simp only [Act.put, List.setIfInBounds_toArray, List.set_cons_zero, List.set_cons_succ]
          refine held_take (v := ?_) 8 rfl (by kernel_rfl) (by kernel_rfl) (by kernel_rfl) (fun _ _ _ h => h) (by rfl) ?_ (by assumption) ?_
          rotate_left
          · (intro w hSw; (try dsimp only at hSw); go_simp; try with_reducible rfl)
          try simp only [Act.put, List.setIfInBounds_toArray, List.set_cons_zero, List.set_cons_succ]
          refine held_call 9 (by kernel_rfl) rfl (fun K hK => ?_)
          go_simp
          skip
          refine hK.out _ _ ?_ (fun hHeld4 => ?_)
          · first | trivial | ((try dsimp only); (trivial))
          clear hK K hHeld3
          try simp only [Act.put, List.setIfInBounds_toArray, List.set_cons_zero, List.set_cons_succ]
          refine held_call 10 (by kernel_rfl) rfl (fun K hK => ?_)
          refine step_app (α := ItR) (n := L) (m := 1) (nm := L + 1) (r := [⟨some ⟨V.heap.size + 1, 0, none⟩, j, List.replicate j (-1), 0, true⟩]) (by rfl) (.tmp 35) (.tmp 40) _ (by rfl) base 206 i0 _ 40 Try.underlying202 hi0 hz0 hz1 hz2 rfl (by decide) itr_one (by rfl) HP.out.2.2.2.1 (HW.out.2.2.2.row.alloc (.cells #[.slice (some ⟨V.heap.size + 1, 0, none⟩) j j, .int .i64 0, .bool true] 206)) (B := w1.heap.size + 1) (X := some ⟨w1.heap.size, 0, none⟩) (d := 1) (by rfl) (At.built w1 #[.slice (some ⟨V.heap.size + 1, 0, none⟩) j j, .int .i64 0, .bool true] 206 [(⟨some ⟨V.heap.size + 1, 0, none⟩, j, List.replicate j (-1), 0, true⟩ : ItR)] (by simp [flat, Flat.cells]) (fun _ _ => trivial)) rfl rfl (by omega) (by simp only [maxLen]; omega) (by simp; omega) ?_; intro A3 c3 w3 ho3 hgr3 hat3; have hs3 := hgr3.size; simp only [World.size_alloc] at hs3; have n1 := (HW.out.2.2.1.alloc (.cells #[.slice (some ⟨V.heap.size + 1, 0, none⟩) j j, .int .i64 0, .bool true] 206)).grown hgr3 (fun e => own_ne_ty (HW.out.2.2.2.row.alloc (.cells #[.slice (some ⟨V.heap.size + 1, 0, none⟩) j j, .int .i64 0, .bool true] 206)) (HW.out.2.2.1.alloc (.cells #[.slice (some ⟨V.heap.size + 1, 0, none⟩) j j, .int .i64 0, .bool true] 206)) (by decide) e); have z2 := n1.frozen 1; have mc := n1.cell 1 (v := .slice A L c) rfl
          refine hK.out _ _ ?_ (fun hHeld5 => ?_)
          · first | trivial | ((try dsimp only); (trivial))
          clear hK K hHeld4
          try simp only [Act.put, List.setIfInBounds_toArray, List.set_cons_zero, List.set_cons_succ]
          refine held_take (v := ?_) 11 rfl (by kernel_rfl) (by kernel_rfl) (by kernel_rfl) (fun _ _ _ h => h) (by rfl) ?_ (by assumption) ?_
          rotate_left
          · (intro w hSw; (try dsimp only at hSw); go_simp; try with_reducible rfl)
          try simp only [Act.put, List.setIfInBounds_toArray, List.set_cons_zero, List.set_cons_succ]
          refine held_take (v := ?_) 12 rfl (by kernel_rfl) (by kernel_rfl) (by kernel_rfl) (fun _ _ _ h => h) (by rfl) ?_ (by assumption) ?_
          rotate_left
          · (intro w hSw; (try dsimp only at hSw); go_simp; try with_reducible rfl)
          try simp only [Act.put, List.setIfInBounds_toArray, List.set_cons_zero, List.set_cons_succ]
          refine held_call 13 (by kernel_rfl) rfl (fun K hK => ?_)
          go_simp
          skip
          refine hK.out _ _ ?_ (fun hHeld6 => ?_)
          · first | trivial | ((try dsimp only); (trivial))
          clear hK K hHeld5
          try simp only [Act.put, List.setIfInBounds_toArray, List.set_cons_zero, List.set_cons_succ]
          refine wpAnyH_done (by kernel_rfl) ?_ _
          have HZ := Lib.hid (And.intro n1 (And.intro ho3 (And.intro hgr3 hat3))); clear n1 ho3 hgr3 hat3 mc k1 c1
          go_upto_region 8 with fail
          refine wp_world (fun U => Hid (Gn U base (Up F w w3) p nu m (s2 ++ [newI 0 (j : Int)]) ∧ Touch F w U) ∧ U.cell? ⟨p, 1, none⟩ = some (.slice A3 (L + 1) c3) ∧ U.heap.size = w3.heap.size) ⟨⟨?_, ?_⟩, (HZ.out.1.set_ 1 _).cell 1 rfl, by simp⟩ ?_
          · obtain ⟨k1, k2, k3, k4, k5, k6, k7, k8, k9⟩ := HQ.out
            refine ⟨b', D', ⟨A3, c3, _, ?_, ((HW.out.2.2.2.alloc (.cells #[.slice (some ⟨V.heap.size + 1, 0, none⟩) j j, .int .i64 0, .bool true] 206)).push (F' := Up F w w3) (by decide) HZ.out.2.1 HZ.out.2.2.1 HZ.out.2.2.2 (fun g hg => .inl hg) (fun g hg => ?_) ((HW.out.1.base_le (by omega : base ≤ V.heap.size + 1)).alloc (.cells #[.slice (some ⟨V.heap.size + 1, 0, none⟩) j j, .int .i64 0, .bool true] 206)) (fun g hg => ?_) (fun k hk => by rw [(List.mem_replicate.1 hk).2]; unfold I64; omega) (by show I64 0; unfold I64; omega)).far_blk HZ.out.1 (by decide) (by decide) _ _, .inl k1, k2, ?_⟩, ?_, .inl k4, k5, k6.push k7 _, k8⟩
            · have := HZ.out.1.set_ 1 (.slice A3 (L + 1) c3)
              rw [List.length_append, HP.out.2.2.2.1]; exact this
            · rcases HZ.out.2.2.2 with e | e
              · exact .inl (HW.out.2.2.2.foot g (by rw [← e]; exact hg))
              · have hg0 := (HZ.out.2.1.lt g hg).2; rw [e] at hg; injection hg with hg; simp at hg; exact .inr ⟨by omega, hg0⟩
            · injection hg with hg; simp only at hg
              subst hg
              exact ⟨.inr ⟨by omega, by omega⟩, fun e => by have := HG.out.2.2.1 _ e; omega⟩
            · show its (l ++ [_]) = _
              unfold its; rw [List.map_append]
              have := HP.out.2.2.2.2
              unfold its at this
              rw [this]; simp [ItR.it, newI]
            · have t1 := (k3.fresh HW.out.2.1).fresh ((Below.refl _ _).alloc (Nat.le_refl _) (.cells #[.slice (some ⟨V.heap.size + 1, 0, none⟩) j j, .int .i64 0, .bool true] 206))
              have t2 : Set_ w3 b' m D' := World.ownsMap.kept t1 HZ.out.2.2.1 (fun e => t1.own_ne (HW.out.2.2.2.row.alloc (.cells #[.slice (some ⟨V.heap.size + 1, 0, none⟩) j j, .int .i64 0, .bool true] 206)) e.symm)
              exact t2.far (fun e => t2.blk_ne HZ.out.1 e.symm) _
          · exact (((HQ.out.2.2.2.2.2.2.2.2.trans (Touch.ofBelow HW.out.2.1)).alloc (.cells #[.slice (some ⟨V.heap.size + 1, 0, none⟩) j j, .int .i64 0, .bool true] 206)).grown HZ.out.2.2.1 (fun g hg => HW.out.2.2.2.foot g hg)).setCell HQ.out.1 _
          rintro U ⟨hU, v0, hUs⟩
          go_wp2_with fail
          go_ret2
          exact ⟨by first | rfl | (congr 3; omega), by rw [HS.out]; obtain ⟨b1, D1, q1, q2, q3, q4⟩ := hU.out.1; exact ⟨b1, D1, q1.mono (fun g hg => Up.more (w1 := w3) (by omega) hg), q2, Up.more (w1 := w3) (by omega) q3, q4⟩, hU.out.2⟩
        · go_simp
          go_at_call 171; refine HP.out.1.mono ?_; rintro e w1 ⟨rfl, ho1, hb1⟩; simp only [World.size_alloc, World.size_drew] at ho1 hb1; have hs1 := hb1.size; simp only [World.size_alloc, World.size_drew] at hs1; have hb01 : Below V.heap.size V w1 := undrew (((Below.refl V.heap.size V.drew).alloc (Nat.le_refl _) _).trans (hb1.mono (by omega))); have k1 := (hb01.cell (p := ⟨p, 1, none⟩) hpV).trans c1; have m1 := HP.out.2.1.fresh hb01; have m2 := HP.out.2.2.1.fresh hb01; have hpw := m1.lt; have HW := Lib.hid (And.intro ho1 (And.intro hb01 (And.intro m1 m2))); clear ho1 hb1 hb01 m1 m2
          try (go_wp2_with fail)
          refine hK.out _ _ ?_ (fun hHeld2 => ?_)
          · first | trivial | ((try dsimp only); (trivial))
          clear hK K hHeld1
          try simp only [Act.put, List.setIfInBounds_toArray, List.set_cons_zero, List.set_cons_succ]
          refine held_take (v := ?_) 8 rfl (by kernel_rfl) (by kernel_rfl) (by kernel_rfl) (fun _ _ _ h => h) (by rfl) ?_ (by assumption) ?_
          rotate_left
          · (intro w hSw; (try dsimp only at hSw); go_simp; try with_reducible rfl)
          try simp only [Act.put, List.setIfInBounds_toArray, List.set_cons_zero, List.set_cons_succ]
          refine held_call2 4 9 (by kernel_rfl) rfl rfl (fun K hK => ?_) (fun K hK => ?_)
          · go_simp
            skip
            refine hK.out _ _ ?_ (fun hHeld3 => ?_)
            · first | trivial | ((try dsimp only); (trivial))
            clear hK K hHeld2
            try simp only [Act.put, List.setIfInBounds_toArray, List.set_cons_zero, List.set_cons_succ]
            refine held_call 9 (by kernel_rfl) rfl (fun K hK => ?_)
            go_simp
            skip
            refine hK.out _ _ ?_ (fun hHeld4 => ?_)
            · first | trivial | ((try dsimp only); (trivial))
            clear hK K hHeld3
            try simp only [Act.put, List.setIfInBounds_toArray, List.set_cons_zero, List.set_cons_succ]
            refine held_call 10 (by kernel_rfl) rfl (fun K hK => ?_)
            refine step_app (α := ItR) (n := L) (m := 1) (nm := L + 1) (r := [⟨some ⟨V.heap.size + 1, 0, none⟩, j, List.replicate j (-1), 0, true⟩]) (by rfl) (.tmp 35) (.tmp 40) _ (by rfl) base 206 i0 _ 40 Try.underlying202 hi0 hz0 hz1 hz2 rfl (by decide) itr_one (by rfl) HP.out.2.2.2.1 (HW.out.2.2.2.row.alloc (.cells #[.slice (some ⟨V.heap.size + 1, 0, none⟩) j j, .int .i64 0, .bool true] 206)) (B := w1.heap.size + 1) (X := some ⟨w1.heap.size, 0, none⟩) (d := 1) (by rfl) (At.built w1 #[.slice (some ⟨V.heap.size + 1, 0, none⟩) j j, .int .i64 0, .bool true] 206 [(⟨some ⟨V.heap.size + 1, 0, none⟩, j, List.replicate j (-1), 0, true⟩ : ItR)] (by simp [flat, Flat.cells]) (fun _ _ => trivial)) rfl rfl (by omega) (by simp only [maxLen]; omega) (by simp; omega) ?_; intro A3 c3 w3 ho3 hgr3 hat3; have hs3 := hgr3.size; simp only [World.size_alloc] at hs3; have n1 := (HW.out.2.2.1.alloc (.cells #[.slice (some ⟨V.heap.size + 1, 0, none⟩) j j, .int .i64 0, .bool true] 206)).grown hgr3 (fun e => own_ne_ty (HW.out.2.2.2.row.alloc (.cells #[.slice (some ⟨V.heap.size + 1, 0, none⟩) j j, .int .i64 0, .bool true] 206)) (HW.out.2.2.1.alloc (.cells #[.slice (some ⟨V.heap.size + 1, 0, none⟩) j j, .int .i64 0, .bool true] 206)) (by decide) e); have z2 := n1.frozen 1; have mc := n1.cell 1 (v := .slice A L c) rfl
            refine hK.out _ _ ?_ (fun hHeld5 => ?_)
            · first | trivial | ((try dsimp only); (trivial))
            clear hK K hHeld4
            try simp only [Act.put, List.setIfInBounds_toArray, List.set_cons_zero, List.set_cons_succ]
            refine held_take (v := ?_) 11 rfl (by kernel_rfl) (by kernel_rfl) (by kernel_rfl) (fun _ _ _ h => h) (by rfl) ?_ (by assumption) ?_
            rotate_left
            · (intro w hSw; (try dsimp only at hSw); go_simp; try with_reducible rfl)
            try simp only [Act.put, List.setIfInBounds_toArray, List.set_cons_zero, List.set_cons_succ]
            refine held_take (v := ?_) 12 rfl (by kernel_rfl) (by kernel_rfl) (by kernel_rfl) (fun _ _ _ h => h) (by rfl) ?_ (by assumption) ?_
            rotate_left
            · (intro w hSw; (try dsimp only at hSw); go_simp; try with_reducible rfl)
            try simp only [Act.put, List.setIfInBounds_toArray, List.set_cons_zero, List.set_cons_succ]
            refine held_call 13 (by kernel_rfl) rfl (fun K hK => ?_)
            go_simp
            skip
            refine hK.out _ _ ?_ (fun hHeld6 => ?_)
            · first | trivial | ((try dsimp only); (trivial))
            clear hK K hHeld5
            try simp only [Act.put, List.setIfInBounds_toArray, List.set_cons_zero, List.set_cons_succ]
            refine wpAnyH_done (by kernel_rfl) ?_ _
            have HZ := Lib.hid (And.intro n1 (And.intro ho3 (And.intro hgr3 hat3))); clear n1 ho3 hgr3 hat3 mc k1 c1
            go_upto_region 8 with fail
            refine wp_world (fun U => Hid (Gn U base (Up F w w3) p nu m (s2 ++ [newI 0 (j : Int)]) ∧ Touch F w U) ∧ U.cell? ⟨p, 1, none⟩ = some (.slice A3 (L + 1) c3) ∧ U.heap.size = w3.heap.size) ⟨⟨?_, ?_⟩, (HZ.out.1.set_ 1 _).cell 1 rfl, by simp⟩ ?_
            · obtain ⟨k1, k2, k3, k4, k5, k6, k7, k8, k9⟩ := HQ.out
              refine ⟨b', D', ⟨A3, c3, _, ?_, ((HW.out.2.2.2.alloc (.cells #[.slice (some ⟨V.heap.size + 1, 0, none⟩) j j, .int .i64 0, .bool true] 206)).push (F' := Up F w w3) (by decide) HZ.out.2.1 HZ.out.2.2.1 HZ.out.2.2.2 (fun g hg => .inl hg) (fun g hg => ?_) ((HW.out.1.base_le (by omega : base ≤ V.heap.size + 1)).alloc (.cells #[.slice (some ⟨V.heap.size + 1, 0, none⟩) j j, .int .i64 0, .bool true] 206)) (fun g hg => ?_) (fun k hk => by rw [(List.mem_replicate.1 hk).2]; unfold I64; omega) (by show I64 0; unfold I64; omega)).far_blk HZ.out.1 (by decide) (by decide) _ _, .inl k1, k2, ?_⟩, ?_, .inl k4, k5, k6.push k7 _, k8⟩
              · have := HZ.out.1.set_ 1 (.slice A3 (L + 1) c3)
                rw [List.length_append, HP.out.2.2.2.1]; exact this
              · rcases HZ.out.2.2.2 with e | e
                · exact .inl (HW.out.2.2.2.foot g (by rw [← e]; exact hg))
                · have hg0 := (HZ.out.2.1.lt g hg).2; rw [e] at hg; injection hg with hg; simp at hg; exact .inr ⟨by omega, hg0⟩
              · injection hg with hg; simp only at hg
                subst hg
                exact ⟨.inr ⟨by omega, by omega⟩, fun e => by have := HG.out.2.2.1 _ e; omega⟩
              · show its (l ++ [_]) = _
                unfold its; rw [List.map_append]
                have := HP.out.2.2.2.2
                unfold its at this
                rw [this]; simp [ItR.it, newI]
              · have t1 := (k3.fresh HW.out.2.1).fresh ((Below.refl _ _).alloc (Nat.le_refl _) (.cells #[.slice (some ⟨V.heap.size + 1, 0, none⟩) j j, .int .i64 0, .bool true] 206))
                have t2 : Set_ w3 b' m D' := World.ownsMap.kept t1 HZ.out.2.2.1 (fun e => t1.own_ne (HW.out.2.2.2.row.alloc (.cells #[.slice (some ⟨V.heap.size + 1, 0, none⟩) j j, .int .i64 0, .bool true] 206)) e.symm)
                exact t2.far (fun e => t2.blk_ne HZ.out.1 e.symm) _
            · exact (((HQ.out.2.2.2.2.2.2.2.2.trans (Touch.ofBelow HW.out.2.1)).alloc (.cells #[.slice (some ⟨V.heap.size + 1, 0, none⟩) j j, .int .i64 0, .bool true] 206)).grown HZ.out.2.2.1 (fun g hg => HW.out.2.2.2.foot g hg)).setCell HQ.out.1 _
            rintro U ⟨hU, v0, hUs⟩
            go_wp2_with fail
            go_ret2
            exact ⟨by first | rfl | (congr 3; omega), by rw [HS.out]; obtain ⟨b1, D1, q1, q2, q3, q4⟩ := hU.out.1; exact ⟨b1, D1, q1.mono (fun g hg => Up.more (w1 := w3) (by omega) hg), q2, Up.more (w1 := w3) (by omega) q3, q4⟩, hU.out.2⟩
          · go_simp
            skip
            refine hK.out _ _ ?_ (fun hHeld3 => ?_)
            · first | trivial | ((try dsimp only); (trivial))
            clear hK K hHeld2
            try simp only [Act.put, List.setIfInBounds_toArray, List.set_cons_zero, List.set_cons_succ]
            refine held_call 4 (by kernel_rfl) rfl (fun K hK => ?_)
            go_simp
            skip
            refine hK.out _ _ ?_ (fun hHeld4 => ?_)
            · first | trivial | ((try dsimp only); (trivial))
            clear hK K hHeld3
            try simp only [Act.put, List.setIfInBounds_toArray, List.set_cons_zero, List.set_cons_succ]
            refine held_call 10 (by kernel_rfl) rfl (fun K hK => ?_)
            refine step_app (α := ItR) (n := L) (m := 1) (nm := L + 1) (r := [⟨some ⟨V.heap.size + 1, 0, none⟩, j, List.replicate j (-1), 0, true⟩]) (by rfl) (.tmp 35) (.tmp 40) _ (by rfl) base 206 i0 _ 40 Try.underlying202 hi0 hz0 hz1 hz2 rfl (by decide) itr_one (by rfl) HP.out.2.2.2.1 (HW.out.2.2.2.row.alloc (.cells #[.slice (some ⟨V.heap.size + 1, 0, none⟩) j j, .int .i64 0, .bool true] 206)) (B := w1.heap.size + 1) (X := some ⟨w1.heap.size, 0, none⟩) (d := 1) (by rfl) (At.built w1 #[.slice (some ⟨V.heap.size + 1, 0, none⟩) j j, .int .i64 0, .bool true] 206 [(⟨some ⟨V.heap.size + 1, 0, none⟩, j, List.replicate j (-1), 0, true⟩ : ItR)] (by simp [flat, Flat.cells]) (fun _ _ => trivial)) rfl rfl (by omega) (by simp only [maxLen]; omega) (by simp; omega) ?_; intro A3 c3 w3 ho3 hgr3 hat3; have hs3 := hgr3.size; simp only [World.size_alloc] at hs3; have n1 := (HW.out.2.2.1.alloc (.cells #[.slice (some ⟨V.heap.size + 1, 0, none⟩) j j, .int .i64 0, .bool true] 206)).grown hgr3 (fun e => own_ne_ty (HW.out.2.2.2.row.alloc (.cells #[.slice (some ⟨V.heap.size + 1, 0, none⟩) j j, .int .i64 0, .bool true] 206)) (HW.out.2.2.1.alloc (.cells #[.slice (some ⟨V.heap.size + 1, 0, none⟩) j j, .int .i64 0, .bool true] 206)) (by decide) e); have z2 := n1.frozen 1; have mc := n1.cell 1 (v := .slice A L c) rfl
            refine hK.out _ _ ?_ (fun hHeld5 => ?_)
            · first | trivial | ((try dsimp only); (trivial))
            clear hK K hHeld4
            try simp only [Act.put, List.setIfInBounds_toArray, List.set_cons_zero, List.set_cons_succ]
            refine held_take (v := ?_) 11 rfl (by kernel_rfl) (by kernel_rfl) (by kernel_rfl) (fun _ _ _ h => h) (by rfl) ?_ (by assumption) ?_
            rotate_left
            · (intro w hSw; (try dsimp only at hSw); go_simp; try with_reducible rfl)
            try simp only [Act.put, List.setIfInBounds_toArray, List.set_cons_zero, List.set_cons_succ]
            refine held_take (v := ?_) 12 rfl (by kernel_rfl) (by kernel_rfl) (by kernel_rfl) (fun _ _ _ h => h) (by rfl) ?_ (by assumption) ?_
            rotate_left
            · (intro w hSw; (try dsimp only at hSw); go_simp; try with_reducible rfl)
            try simp only [Act.put, List.setIfInBounds_toArray, List.set_cons_zero, List.set_cons_succ]
            refine held_call 13 (by kernel_rfl) rfl (fun K hK => ?_)
            go_simp
            skip
            refine hK.out _ _ ?_ (fun hHeld6 => ?_)
            · first | trivial | ((try dsimp only); (trivial))
            clear hK K hHeld5
            try simp only [Act.put, List.setIfInBounds_toArray, List.set_cons_zero, List.set_cons_succ]
            refine wpAnyH_done (by kernel_rfl) ?_ _
            have HZ := Lib.hid (And.intro n1 (And.intro ho3 (And.intro hgr3 hat3))); clear n1 ho3 hgr3 hat3 mc k1 c1
            go_upto_region 8 with fail
            refine wp_world (fun U => Hid (Gn U base (Up F w w3) p nu m (s2 ++ [newI 0 (j : Int)]) ∧ Touch F w U) ∧ U.cell? ⟨p, 1, none⟩ = some (.slice A3 (L + 1) c3) ∧ U.heap.size = w3.heap.size) ⟨⟨?_, ?_⟩, (HZ.out.1.set_ 1 _).cell 1 rfl, by simp⟩ ?_
            · obtain ⟨k1, k2, k3, k4, k5, k6, k7, k8, k9⟩ := HQ.out
              refine ⟨b', D', ⟨A3, c3, _, ?_, ((HW.out.2.2.2.alloc (.cells #[.slice (some ⟨V.heap.size + 1, 0, none⟩) j j, .int .i64 0, .bool true] 206)).push (F' := Up F w w3) (by decide) HZ.out.2.1 HZ.out.2.2.1 HZ.out.2.2.2 (fun g hg => .inl hg) (fun g hg => ?_) ((HW.out.1.base_le (by omega : base ≤ V.heap.size + 1)).alloc (.cells #[.slice (some ⟨V.heap.size + 1, 0, none⟩) j j, .int .i64 0, .bool true] 206)) (fun g hg => ?_) (fun k hk => by rw [(List.mem_replicate.1 hk).2]; unfold I64; omega) (by show I64 0; unfold I64; omega)).far_blk HZ.out.1 (by decide) (by decide) _ _, .inl k1, k2, ?_⟩, ?_, .inl k4, k5, k6.push k7 _, k8⟩
              · have := HZ.out.1.set_ 1 (.slice A3 (L + 1) c3)
                rw [List.length_append, HP.out.2.2.2.1]; exact this
              · rcases HZ.out.2.2.2 with e | e
                · exact .inl (HW.out.2.2.2.foot g (by rw [← e]; exact hg))
                · have hg0 := (HZ.out.2.1.lt g hg).2; rw [e] at hg; injection hg with hg; simp at hg; exact .inr ⟨by omega, hg0⟩
              · injection hg with hg; simp only at hg
                subst hg
                exact ⟨.inr ⟨by omega, by omega⟩, fun e => by have := HG.out.2.2.1 _ e; omega⟩
              · show its (l ++ [_]) = _
                unfold its; rw [List.map_append]
                have := HP.out.2.2.2.2
                unfold its at this
                rw [this]; simp [ItR.it, newI]
              · have t1 := (k3.fresh HW.out.2.1).fresh ((Below.refl _ _).alloc (Nat.le_refl _) (.cells #[.slice (some ⟨V.heap.size + 1, 0, none⟩) j j, .int .i64 0, .bool true] 206))
                have t2 : Set_ w3 b' m D' := World.ownsMap.kept t1 HZ.out.2.2.1 (fun e => t1.own_ne (HW.out.2.2.2.row.alloc (.cells #[.slice (some ⟨V.heap.size + 1, 0, none⟩) j j, .int .i64 0, .bool true] 206)) e.symm)
                exact t2.far (fun e => t2.blk_ne HZ.out.1 e.symm) _
            · exact (((HQ.out.2.2.2.2.2.2.2.2.trans (Touch.ofBelow HW.out.2.1)).alloc (.cells #[.slice (some ⟨V.heap.size + 1, 0, none⟩) j j, .int .i64 0, .bool true] 206)).grown HZ.out.2.2.1 (fun g hg => HW.out.2.2.2.foot g hg)).setCell HQ.out.1 _
            rintro U ⟨hU, v0, hUs⟩
            go_wp2_with fail
            go_ret2
            exact ⟨by first | rfl | (congr 3; omega), by rw [HS.out]; obtain ⟨b1, D1, q1, q2, q3, q4⟩ := hU.out.1; exact ⟨b1, D1, q1.mono (fun g hg => Up.more (w1 := w3) (by omega) hg), q2, Up.more (w1 := w3) (by omega) q3, q4⟩, hU.out.2⟩

end Go.Proofs.Ytpkccpegdpodoaa

/- gens: hold, set, Do. -/
namespace Go.Proofs.Ytpkccpegdpodoaa
open Go.RowKit Go.Maps Go.WideShapes

attribute [local go_sem ↓] Go.wp_at_zero Go.wp_at_succ

/-- the answer is E; behind it the things are s' if there was no error, else as they were -/
def ErPost (w : World) (base : Nat) (F : Nat → Prop) (p : Nat) (nu : Int) (m : Nat) (s s' : List It) (E : Int) (e : Ending) (w' : World) : Prop :=
  e = .returned (.int .i64 E) ∧ (E ≠ 0 → Gn w' base F p nu m s) ∧ (E = 0 → Gn w' base F p nu m s') ∧ Touch F w w'
theorem HpA.touchp {w : World} {base p b : Nat} {F : Nat → Prop} {nu : Int} {A : Option Addr} {c : Nat} {s : List It} (h : HpA w base F p nu b A c s) : HpG w base F p nu b s := ⟨A, c, h⟩
theorem heldB_get {s : List It} {a : Nat} {x : It} (h : s[a]? = some x) : heldB s (a : Int) = x.held := by unfold heldB; rw [Int.toNat_natCast, h]; rfl

set_option maxHeartbeats 1600000 in
set_option maxRecDepth 100000 in
theorem ghold_any (w : World) (base p m : Nat) (F : Nat → Prop) (nu dd n : Int) (is : Bool) (s : List It) (h : Gn w base F p nu m s) (hi : GInv s) (hn : I64 n) (his : is = decide (dd = 4)) (hdd : dd = 3 ∨ dd = 4) :
    Calls Try.prog 156 #[.pointer (some ⟨p, 0, none⟩), .int .i64 n, .bool is] w (ErPost w base F p nu m s (s.modify n.toNat (It.sethl is)) (holdE s ⟨dd, n, 0, 0⟩)) := by
  obtain ⟨E, hE⟩ : ∃ E, holdE s ⟨dd, n, 0, 0⟩ = E := ⟨_, rfl⟩
  rw [hE]
  obtain ⟨P, hP⟩ : ∃ P, ErPost w base F p nu m s (s.modify n.toNat (It.sethl is)) E = P := ⟨_, rfl⟩
  have HP := Lib.hid (And.intro hP (And.intro hE (And.intro his hdd)))
  rw [hP]; clear hP hE his hdd
  have HG := Lib.hid (And.intro h (And.intro hi hn))
  obtain ⟨b, D, ⟨A, c, hA⟩, h2, h3, h4, h5, h6⟩ := h
  have H := Lib.hid (And.intro hA (And.intro h2 (And.intro h3 (And.intro h4 (And.intro h5 h6))))); clear hA h2 h5 h6 hi hn
  go_enter Try.func156, Try.ntmps156
  go_wp2_with fail
  refine calls_world (fun V => At V V.heap.size (some ⟨w.heap.size, 0, none⟩) [n] ∧ Below w.heap.size w V) ⟨?_, (Below.refl _ _).alloc (Nat.le_refl _) _⟩ ?_
  · have := At.built w #[.int .i64 n] 3 [n] rfl (by intro z hz; simp at hz; subst hz; exact HG.out.2.2)
    exact this.more (by simp)
  rintro V ⟨hAt, hbV⟩
  refine (hnamed_any V base p V.heap.size 1 1 F nu b s (some ⟨w.heap.size, 0, none⟩) [n] (HpG.fresh ⟨A, c, H.out.1⟩ hbV) HG.out.2.1.fine hAt (Nat.le_refl _) rfl (by decide)).mono ?_
  rintro e w1 ⟨rfl, hb1⟩
  have hb : Below w.heap.size w w1 := hbV.trans (hb1.mono hbV.size)
  obtain ⟨q, hq⟩ : ∃ q, namedE s [n] = q := ⟨_, rfl⟩
  rw [hq]
  have HB := Lib.hid (And.intro hb hq); clear hb hb1 hbV hAt hq
  by_cases hq0 : q = 0
  · subst hq0
    obtain ⟨a, rfl, hal, -⟩ := namedE_zero HB.out.2 n (by simp)
    obtain ⟨x, hx⟩ : ∃ x, s[a]? = some x := ⟨_, List.getElem?_eq_getElem hal⟩
    obtain ⟨xh, xs, xb⟩ := x
    have hs100 := HG.out.2.1.small
    obtain ⟨l, k1, k2, k3, k4, k5⟩ := H.out.1.fresh HB.out.1
    have hll : l.length = s.length := by rw [← k5, its_length]
    obtain ⟨N, hN⟩ : ∃ N, l.length = N := ⟨_, rfl⟩
    have hx' : (its l)[a]? = some ⟨xh, xs, xb⟩ := by rw [k5]; exact hx
    obtain ⟨y, hy, hyx⟩ := get_its hx'
    obtain ⟨g, rfl, hg1, hg2, q0, q1, q2⟩ := k2.cells hy
    have hyb : y.held = xb := congrArg It.held hyx
    rw [hyb] at q2
    have k1' := k1
    rw [hN] at k1'
    have p1 := k1'.cell 1 (v := .slice (some ⟨g, 0, none⟩) N c) rfl
    have z2 := k2.row.frozen (g := g) rfl (a * 3 + 2)
    have a0 : (0 : Int) ≤ (a : Int) := by omega
    have a1 : (a : Int) < (N : Int) := by omega
    have hne : p ≠ g := fun e => own_ne_ty k2.row k1 (by decide) (by rw [← e]; rfl)
    have hgF := k2.foot g rfl
    have hset0 := H.out.2.1.fresh HB.out.1
    have hnb : b ≠ g := fun e => hset0.own_ne k2.row (by rw [e]; rfl)
    have hset := k2.setHeld hy (by decide) is
    have hits := its_set l a y { y with held := is } (It.sethl is) hy rfl
    rw [k5] at hits
    have hbl := k1'.far (p := ⟨g, a * 3 + 2, none⟩) hne (.bool is)
    have hln : (l.set a { y with held := is }).length = N := by rw [List.length_set]; exact hN
    have hs2 := hset0.far (p := ⟨g, a * 3 + 2, none⟩) hnb (.bool is)
    have hfin : Gn (w1.setCell ⟨g, a * 3 + 2, none⟩ (.bool is)) base F p nu m (s.modify a (It.sethl is)) := ⟨b, D, ⟨_, c, _, by rw [hln]; exact hbl, hset, k3, k4, hits⟩, hs2, H.out.2.2.1, H.out.2.2.2.1, H.out.2.2.2.2.1.hold a is, H.out.2.2.2.2.2⟩
    have hT := (Touch.ofBelow (F := F) HB.out.1).setCell (p := ⟨g, a * 3 + 2, none⟩) hgF (.bool is)
    have hE := HP.out.2.1
    unfold holdE at hE
    simp only at hE
    rw [HB.out.2, if_neg (by simp), heldB_get hx] at hE
    simp only at hE
    have hbw := HB.out.1
    have HF := Lib.hid (And.intro hfin (And.intro hT hE)); clear hfin hT hE hset hits hbl hln hs2 k1 k1' k2 k3 k5 hx hx' hy hyx hset0 hll hN q0 q1 hyb hbw
    cases is with
    | true =>
      have hE0 : E = 0 := by
        have h1 := HF.out.2.2
        have h2 : dd = 4 := by simpa using HP.out.2.2.1.symm
        rw [if_neg (by omega)] at h1; exact h1.symm
      have HE := Lib.hid hE0; clear hE0
      go_wp2_with fail
      rw [← HP.out.1]
      exact ⟨by rw [HE.out]; rfl, fun h => absurd HE.out h, fun _ => by simpa using HF.out.1, HF.out.2.1⟩
    | false =>
      have hd3 : dd = 3 := by
        have h2 : ¬ dd = 4 := by simpa using HP.out.2.2.1.symm
        have := HP.out.2.2.2; omega
      cases xb with
      | true =>
        have hE0 : E = 0 := by
          have h1 := HF.out.2.2
          rw [if_neg (by simp)] at h1; exact h1.symm
        have HE := Lib.hid hE0; clear hE0
        go_wp2_with fail
        rw [← HP.out.1]
        exact ⟨by rw [HE.out]; rfl, fun h => absurd HE.out h, fun _ => by simpa using HF.out.1, HF.out.2.1⟩
      | false =>
        have hE8 : E = 8 := by
          have h1 := HF.out.2.2
          rw [if_pos ⟨hd3, rfl⟩] at h1; exact h1.symm
        have HE := Lib.hid hE8; clear hE8
        go_wp2_with fail
        rw [← HP.out.1]
        exact ⟨by rw [HE.out]; rfl, fun _ => HG.out.1.fresh HB.out.1, fun h => by have := HE.out; omega, Touch.ofBelow HB.out.1⟩
  · have hE : E = q := by
      have := HP.out.2.1
      unfold holdE at this
      simp only at this
      rw [HB.out.2, if_pos hq0] at this; exact this.symm
    have d0 : (q != 0) = true := by simpa using hq0
    have HE := Lib.hid (And.intro hE hq0); clear hE hq0
    go_wp2_with fail
    rw [← HP.out.1]
    exact ⟨by rw [HE.out.1]; rfl, fun _ => HG.out.1.fresh HB.out.1, fun h => by rw [HE.out.1] at h; exact absurd h HE.out.2, Touch.ofBelow HB.out.1⟩

end Go.Proofs.Ytpkccpegdpodoaa

/- gens: set. -/
namespace Go.Proofs.Ytpkccpegdpodoaa
open Go.RowKit Go.Maps Go.WideShapes

attribute [local go_sem ↓] Go.wp_at_zero Go.wp_at_succ

theorem Set_.put_in {D : DataW Unit} (hD : IsMap D) (a : Nat) (i : Nat) : inSet (D.put (.int .i64 (a : Int)) (.agg [])) i ↔ inSet D i ∨ i = a := by
  unfold inSet
  by_cases e : i = a
  · subst e
    rw [has_put_same hD (by trivial)]; simp
  · rw [has_put_other (fun e2 => e (by injection e2 with _ e2; omega))]
    simp [e]
theorem Nums.put {D : DataW Unit} (h : Nums D) (a : Nat) : Nums (D.put (.int .i64 (a : Int)) (.agg [])) := by
  intro kl hk
  by_cases e : kl = .int .i64 (a : Int)
  · exact ⟨a, e⟩
  · rw [has_put_other e] at hk
    exact h kl hk
theorem RemP.set_put {s : List It} {D : DataW Unit} (hD : IsMap D) (h : RemP s (inSet D)) (a j : Nat) (v : Int) (h1 : stAt s a = some 1) (h2 : isYg s v = true) : RemP (s.modify a (It.sethas j v)) (inSet (D.put (.int .i64 (a : Int)) (.agg []))) :=
  (h.set a j v).iff fun i => by
    rw [Set_.put_in hD]
    constructor
    · rintro (h | ⟨h, -⟩)
      · exact .inl h
      · exact .inr h
    · rintro (h | rfl)
      · exact .inl h
      · exact .inr ⟨rfl, h1, isYg_iff.1 h2⟩
theorem RemP.set_same {s : List It} {D : DataW Unit} (h : RemP s (inSet D)) (a j : Nat) (v : Int) (hn : ¬ (stAt s a = some 1 ∧ isYg s v = true)) : RemP (s.modify a (It.sethas j v)) (inSet D) :=
  (h.set a j v).iff fun i => ⟨fun h => h.elim id (fun ⟨_, h1, h2⟩ => absurd ⟨h1, isYg_iff.2 h2⟩ hn), .inl⟩
theorem isYg_sethas (s : List It) (a j : Nat) (v k : Int) : isYg (s.modify a (It.sethas j v)) k = isYg s k := by unfold isYg; rw [stAt_has]

set_option maxHeartbeats 3200000 in
set_option maxRecDepth 100000 in
theorem gset_any (w : World) (base p m : Nat) (F : Nat → Prop) (nu dd a b n : Int) (s : List It) (h : Gn w base F p nu m s) (hi : GInv s) (hd : I64 a ∧ I64 b ∧ I64 n) (hm : m ≤ 1000) :
    Calls Try.prog 155 #[.pointer (some ⟨p, 0, none⟩), .agg #[.int .i64 dd, .int .i64 a, .int .i64 b, .int .i64 n]] w (ErPost w base F p nu (m + 1) s (setG ⟨dd, a, b, n⟩ s) (setE s ⟨dd, a, b, n⟩)) := by
  obtain ⟨E, hE⟩ : ∃ E, setE s ⟨dd, a, b, n⟩ = E := ⟨_, rfl⟩
  rw [hE]
  obtain ⟨P, hP⟩ : ∃ P, ErPost w base F p nu (m + 1) s (setG ⟨dd, a, b, n⟩ s) E = P := ⟨_, rfl⟩
  have HP := Lib.hid (And.intro hP hE)
  rw [hP]; clear hP hE
  obtain ⟨bb, D, ⟨A, c, hA⟩, h2, h3, h4, h5, h6⟩ := h
  have hp := (show HpG w base F p nu bb s from ⟨A, c, hA⟩).lt.1
  have H := Lib.hid (And.intro hA (And.intro h2 (And.intro h3 (And.intro h4 (And.intro h5 (And.intro h6 (And.intro hi hd))))))); clear hA h2 h5 h6 hi hd
  have hat2 : ∀ V : World, At (V.alloc (.cells #[.int .i64 a, .int .i64 b] 3)) (V.heap.size + 1) (some ⟨V.heap.size, 0, none⟩) [a, b] := fun V => At.built V _ _ [a, b] rfl (by
    intro z hz
    simp only [List.mem_cons, List.not_mem_nil, or_false] at hz
    rcases hz with rfl | rfl
    · exact H.out.2.2.2.2.2.2.2.1
    · exact H.out.2.2.2.2.2.2.2.2.1)
  have hls : (b == -1) = true ∧ setL ⟨dd, a, b, n⟩ = [a] ∨ (b == -1) = false ∧ setL ⟨dd, a, b, n⟩ = [a, b] := by
    by_cases hb : b = -1
    · exact .inl ⟨by simpa using hb, if_pos hb⟩
    · exact .inr ⟨by simpa using hb, if_neg hb⟩
  have HA2 := Lib.hid hat2; clear hat2
  rcases hls with ⟨d0, hl⟩ | ⟨d0, hl⟩
  all_goals
    have hat : ∀ V : World, At (V.alloc (.cells #[.int .i64 a, .int .i64 b] 3)) (V.heap.size + 1) (some ⟨V.heap.size, 0, none⟩) (setL ⟨dd, a, b, n⟩) := by
      intro V; rw [hl]
      first
        | exact HA2.out V
        | exact At.pre (r := [b]) (HA2.out V)
    have HL := Lib.hid (And.intro hl hat); clear hl hat
    go_enter Try.func155, Try.ntmps155
    go_wp2_with fail
    refine calls_world (fun W => Blk W w.heap.size 97 #[.int .i64 dd, .int .i64 a, .int .i64 b, .int .i64 n] ∧ At W W.heap.size (some ⟨w.heap.size + 1, 0, none⟩) (setL ⟨dd, a, b, n⟩) ∧ Below w.heap.size w W ∧ w.heap.size < W.heap.size) ⟨(Blk.new w _ _).alloc _, ?_, ((Below.refl _ _).alloc (Nat.le_refl _) _).alloc (by simp) _, by simp; omega⟩ ?_
    · have := HL.out.2 (w.alloc (.cells #[.int .i64 dd, .int .i64 a, .int .i64 b, .int .i64 n] 97))
      simpa using this
    rintro W ⟨hD, hAt, hbW, hsW⟩
    refine (hnamed_any W base p W.heap.size 2 _ F nu bb s _ _ ⟨A, c, H.out.1.fresh (hbW.mono (Nat.le_refl _))⟩ H.out.2.2.2.2.2.2.1.fine hAt (Nat.le_refl _) (by rw [HL.out.1]; rfl) (by decide)).mono ?_
    rintro e w1 ⟨rfl, hb1⟩
    have hs1 := hb1.size
    have hb : Below w.heap.size w w1 := hbW.trans (hb1.mono (by omega))
    have HD := Lib.hid (And.intro (hD.fresh hb1) (And.intro hb (H.out.1.fresh hb))); clear hD hAt hbW hb1 hb
    have hG1 : Gn w1 base F p nu (m + 1) s := ⟨bb, D, ⟨A, c, HD.out.2.2⟩, (H.out.2.1.fresh HD.out.2.1).mono (Nat.le_succ m), H.out.2.2.1, H.out.2.2.2.1, H.out.2.2.2.2.1, H.out.2.2.2.2.2.1⟩
    have HG := Lib.hid hG1; clear hG1
    by_cases hn0 : namedE s (setL ⟨dd, a, b, n⟩) = 0
    · rw [hn0]
      have hz := namedE_zero hn0 a (by rw [HL.out.1]; simp)
      obtain ⟨t, rfl, htl, -⟩ := hz
      obtain ⟨l, m1, m2, m3, m4, m5⟩ := HD.out.2.2
      have hll : l.length = s.length := by rw [← m5, its_length]
      obtain ⟨L, hL⟩ : ∃ L, l.length = L := ⟨_, rfl⟩
      rw [hL] at m1 hll
      obtain ⟨x, hx⟩ : ∃ x, l[t]? = some x := ⟨_, List.getElem?_eq_getElem (by omega)⟩
      obtain ⟨g, rfl, hg1, hg2, q0, q1, q2⟩ := m2.cells hx
      have hsx : s[t]? = some x.it := by rw [← m5]; exact its_get hx
      obtain ⟨XA, xc, xh, xs, xb⟩ := x
      simp only at q0 q1 q2
      obtain ⟨xn, hxn⟩ : ∃ n, xh.length = n := ⟨_, rfl⟩
      rw [hxn] at q0
      have hat : hasAt s (t : Int) = xh := by unfold hasAt; rw [Int.toNat_natCast, hsx]; rfl
      have p2 := m1.cell 1 (v := .slice (some ⟨g, 0, none⟩) L c) rfl
      have e1 := HD.out.1.cell 1 (v := .int .i64 (t : Int)) rfl
      have e2 := HD.out.1.cell 2 (v := .int .i64 b) rfl
      have e3 := HD.out.1.cell 3 (v := .int .i64 n) rfl
      have t0 : (0 : Int) ≤ (t : Int) := by omega
      have t1 : (t : Int) < (L : Int) := by omega
      have ht9 : t ≤ 1000 := by have := H.out.2.2.2.2.2.2.1.small; omega
      have hplt := m1.lt
      have hDlt := HD.out.1.lt
      have hY : ∀ o : Obj, (w1.alloc o).cell? ⟨p, 1, none⟩ = some (.slice (some ⟨g, 0, none⟩) L c) ∧ (w1.alloc o).cell? ⟨w.heap.size, 1, none⟩ = some (.int .i64 (t : Int)) ∧ (w1.alloc o).cell? ⟨g, t * 3, none⟩ = some (.slice XA xn xc) ∧ (w1.alloc o).cell? ⟨g, t * 3 + 1, none⟩ = some (.int .i64 xs) ∧ (w1.alloc o).cell? ⟨g, t * 3 + 2, none⟩ = some (.bool xb) := fun o =>
        ⟨(World.cell?_alloc_lt _ _ _ hplt).trans p2, (World.cell?_alloc_lt _ _ _ hDlt).trans e1, (World.cell?_alloc_lt _ _ _ hg2).trans q0, (World.cell?_alloc_lt _ _ _ hg2).trans q1, (World.cell?_alloc_lt _ _ _ hg2).trans q2⟩
      have HY := Lib.hid hY; clear hY
      have HX := Lib.hid (And.intro m1 (And.intro m2 (And.intro m3 (And.intro m5 (And.intro hll (And.intro hx (And.intro hsx (And.intro hxn (And.intro hat (And.intro hn0 hL)))))))))); clear m1 m2 m3 m5 hll hx hsx hxn hat hn0 hL htl
      go_wp2_with fail
      refine wp_region_held_drew (S := (fun w' => w'.cell? ⟨p, 1, none⟩ = some (.slice (some ⟨g, 0, none⟩) L c) ∧ w'.cell? ⟨w.heap.size, 1, none⟩ = some (.int .i64 (t : Int)) ∧ w'.cell? ⟨g, t * 3, none⟩ = some (.slice XA xn xc) ∧ w'.cell? ⟨g, t * 3 + 1, none⟩ = some (.int .i64 xs) ∧ w'.cell? ⟨g, t * 3 + 2, none⟩ = some (.bool xb))) (by kernel_rfl) ?_ (fun hHeld0 => ?_)
      · first | trivial | ((try dsimp only); (exact ⟨p2, e1, q0, q1, q2⟩))
      refine held_take (v := ?_) 0 rfl (by kernel_rfl) (by kernel_rfl) (by kernel_rfl) (fun _ _ _ h => h) (by rfl) ?_ (by assumption) ?_
      rotate_left
      · (intro w hSw; (try dsimp only at hSw); go_simp; try with_reducible rfl)
      try simp only [Act.put, List.setIfInBounds_toArray, List.set_cons_zero, List.set_cons_succ]
      refine held_take (v := ?_) 1 rfl (by kernel_rfl) (by kernel_rfl) (by kernel_rfl) (fun _ _ _ h => h) (by rfl) ?_ (by assumption) ?_
      rotate_left
      · (intro w hSw; (try dsimp only at hSw); go_simp; try with_reducible rfl)
      try simp only [Act.put, List.setIfInBounds_toArray, List.set_cons_zero, List.set_cons_succ]
      refine held_take (v := ?_) 2 rfl (by kernel_rfl) (by kernel_rfl) (by kernel_rfl) (fun _ _ _ h => h) (by rfl) ?_ (by assumption) ?_
      rotate_left
      · (intro w hSw; (try dsimp only at hSw); go_simp; try with_reducible rfl)
      try simp only [Act.put, List.setIfInBounds_toArray, List.set_cons_zero, List.set_cons_succ]
      refine held_take (v := ?_) 3 rfl (by kernel_rfl) (by kernel_rfl) (by kernel_rfl) (fun _ _ _ h => h) (by rfl) ?_ (by assumption) ?_
      rotate_left
      · (intro w hSw; (try dsimp only at hSw); go_simp; try with_reducible rfl)
      try simp only [Act.put, List.setIfInBounds_toArray, List.set_cons_zero, List.set_cons_succ]
      refine held_take (v := ?_) 4 rfl (by kernel_rfl) (by kernel_rfl) (by kernel_rfl) (fun _ _ _ h => h) (by rfl) ?_ (by assumption) ?_
      rotate_left
      · (intro w hSw; (try dsimp only at hSw); go_simp; try with_reducible rfl)
      try simp only [Act.put, List.setIfInBounds_toArray, List.set_cons_zero, List.set_cons_succ]
      refine held_take (v := ?_) 5 rfl (by kernel_rfl) (by kernel_rfl) (by kernel_rfl) (fun _ _ _ h => h) (by rfl) ?_ (by assumption) ?_
      rotate_left
      · (intro w hSw; (try dsimp only at hSw); go_simp; try with_reducible rfl)
      try simp only [Act.put, List.setIfInBounds_toArray, List.set_cons_zero, List.set_cons_succ]
      refine held_take (v := ?_) 6 rfl (by kernel_rfl) (by kernel_rfl) (by kernel_rfl) (fun _ _ _ h => h) (by rfl) ?_ (by assumption) ?_
      rotate_left
      · (intro w hSw; (try dsimp only at hSw); go_simp; try with_reducible rfl)
      try simp only [Act.put, List.setIfInBounds_toArray, List.set_cons_zero, List.set_cons_succ]
      refine held_take (v := ?_) 7 rfl (by kernel_rfl) (by kernel_rfl) (by kernel_rfl) (fun _ _ _ h => h) (by rfl) ?_ (by assumption) ?_
      rotate_left
      · (intro w hSw; (try dsimp only at hSw); go_simp; try with_reducible rfl)
      try simp only [Act.put, List.setIfInBounds_toArray, List.set_cons_zero, List.set_cons_succ]
      refine held_call 8 (by kernel_rfl) rfl (fun K hK => ?_)
      go_simp
      skip
      refine hK.out _ _ ?_ (fun hHeld1 => ?_)
      · first | trivial | ((try dsimp only); (exact HY.out _))
      clear hK K hHeld0
      try simp only [Act.put, List.setIfInBounds_toArray, List.set_cons_zero, List.set_cons_succ]
      refine held_call 9 (by kernel_rfl) rfl (fun K hK => ?_)
      go_simp
      skip
      refine hK.out _ _ ?_ (fun hHeld2 => ?_)
      · first | trivial | ((try dsimp only); (exact HY.out _))
      clear hK K hHeld1
      try simp only [Act.put, List.setIfInBounds_toArray, List.set_cons_zero, List.set_cons_succ]
      refine wpAnyH_done (by kernel_rfl) ?_ _
      go_upto_region 8 with fail
      refine wp_world (fun V => Hid (HpL V base F p nu bb (some ⟨g, 0, none⟩) c s l ∧ Blk V w.heap.size 97 #[.int .i64 dd, .int .i64 (t : Int), .int .i64 b, .int .i64 n] ∧ Blk V w1.heap.size 206 #[.slice XA xn xc, .int .i64 xs, .bool xb] ∧ Touch F w V ∧ Set_ V bb m D ∧ Below w.heap.size w V)) ⟨⟨by rw [HX.out.2.2.2.2.2.2.2.2.2.2]; exact (HX.out.1.alloc _).drew, (HX.out.2.1.alloc _).drew, HX.out.2.2.1, m4, HX.out.2.2.2.1⟩, (HD.out.1.alloc _).drew, (Blk.new _ _ _).drew, ((Touch.ofBelow HD.out.2.1).alloc _).drew, (((H.out.2.1.fresh HD.out.2.1).fresh ((Below.refl _ _).alloc (Nat.le_refl _) _)).drewN 1), (by have := HD.out.2.1.alloc HD.out.2.1.size (.cells #[.slice XA xn xc, .int .i64 xs, .bool xb] 206); exact ⟨this.os, this.tape, this.output, this.size, this.block⟩)⟩ ?_
      rintro V hV
      clear p2 e1 e2 e3 q0 q1 q2
      have e1 := hV.out.2.1.cell 1 (v := .int .i64 (t : Int)) rfl
      have e3 := hV.out.2.1.cell 3 (v := .int .i64 n) rfl
      have e2 := hV.out.2.1.cell 2 (v := .int .i64 b) rfl
      have x0 := hV.out.2.2.1.cell 0 (v := .slice XA xn xc) rfl
      have x1 := hV.out.2.2.1.cell 1 (v := .int .i64 xs) rfl
      have p3 := hV.out.1.1.cell 2 (v := .map (some bb)) rfl
      have hVX := hV.out.2.2.1.lt
      have hgV : Gn V base F p nu (m + 1) s := ⟨bb, D, ⟨_, c, l, hV.out.1⟩, hV.out.2.2.2.2.1.mono (Nat.le_succ m), H.out.2.2.1, H.out.2.2.2.1, H.out.2.2.2.2.1, H.out.2.2.2.2.2.1⟩
      have HV := Lib.hid hgV; clear hgV
      by_cases hr : n < 0 ∨ (xn : Int) ≤ n
      · have HR := Lib.hid (HP.out.2.symm.trans (setE_range (d := ⟨dd, (t : Int), b, n⟩) HX.out.2.2.2.2.2.2.2.2.2.1 (by rw [HX.out.2.2.2.2.2.2.2.2.1, HX.out.2.2.2.2.2.2.2.1]; exact hr)))
        by_cases hn0 : n < 0
        · clear hr
          go_wp2_with fail
          rw [← HP.out.1]
          exact ⟨by rw [HR.out] <;> rfl, fun _ => HV.out, fun h => by have := HR.out; omega, hV.out.2.2.2.1⟩
        · have hn1 : (xn : Int) ≤ n := by omega
          clear hr
          go_wp2_with fail
          rw [← HP.out.1]
          exact ⟨by rw [HR.out] <;> rfl, fun _ => HV.out, fun h => by have := HR.out; omega, hV.out.2.2.2.1⟩
      · have HR := Lib.hid (HP.out.2.symm.trans (setE_ok (d := ⟨dd, (t : Int), b, n⟩) HX.out.2.2.2.2.2.2.2.2.2.1 (by rw [HX.out.2.2.2.2.2.2.2.2.1, HX.out.2.2.2.2.2.2.2.1]; exact hr)))
        obtain ⟨j, rfl⟩ : ∃ j : Nat, n = (j : Int) := ⟨n.toNat, by omega⟩
        have hj : j < xn := by omega
        have j0 : (0 : Int) ≤ (j : Int) := by omega
        have j1 : (j : Int) < (xn : Int) := by omega
        have nj0 : ¬ (j : Int) < 0 := by omega
        have nj1 : ¬ (xn : Int) ≤ (j : Int) := by omega
        clear hr
        have hsub := hV.out.1.2.1.sub t _ HX.out.2.2.2.2.2.1
        have hown := hsub.1
        simp only at hown
        obtain ⟨gx, rfl, hgx1, hgx2⟩ := hown.some_ (by rw [HX.out.2.2.2.2.2.2.2.1]; omega)
        have hjx : j < xh.length := by rw [HX.out.2.2.2.2.2.2.2.1]; exact hj
        have holdc := hown.cell_int (i := j) (List.getElem?_eq_getElem hjx)
        have hfz := hown.frozen (g := gx) rfl j
        obtain ⟨old, hold⟩ : ∃ o, xh[j] = o := ⟨_, rfl⟩
        rw [hold] at holdc
        have hbv : b < 0 ∨ ∃ m : Nat, b = (m : Int) ∧ m < s.length := by
          by_cases hb1 : b = -1
          · exact .inl (by omega)
          · obtain ⟨m, e, e2, -⟩ := namedE_zero HX.out.2.2.2.2.2.2.2.2.2.1 b (by rw [HL.out.1]; first | (simp; done) | (exfalso; exact hb1 (by simpa using d0)))
            exact .inr ⟨m, e, e2⟩
        have hgxF : F gx := hsub.2.1 gx rfl
        have hpx : p ≠ gx := fun e => own_ne_ty hown hV.out.1.1 (by decide) (by rw [← e]; rfl)
        have hDx : w.heap.size ≠ gx := fun e => own_ne_ty hown hV.out.2.1 (by decide) (by rw [← e]; rfl)
        have hXx : w1.heap.size ≠ gx := fun e => own_ne_ty hown hV.out.2.2.1 (by decide) (by rw [← e]; rfl)
        have hbx : bb ≠ gx := fun e => hV.out.2.2.2.2.1.own_ne hown (by rw [e]; rfl)
        have hset := hV.out.1.2.1.setHas HX.out.2.2.2.2.2.1 (by decide) rfl (j := j) hjx b H.out.2.2.2.2.2.2.2.2.1
        have hits := its_set l t _ { (⟨some ⟨gx, 0, none⟩, xc, xh, xs, xb⟩ : ItR) with has := xh.set j b } (It.sethas j b) HX.out.2.2.2.2.2.1 rfl
        rw [HX.out.2.2.2.1] at hits
        have hlen : (l.set t { (⟨some ⟨gx, 0, none⟩, xc, xh, xs, xb⟩ : ItR) with has := xh.set j b }).length = l.length := List.length_set
        have hHpL : HpL (V.setCell ⟨gx, j, none⟩ (.int .i64 b)) base F p nu bb (some ⟨g, 0, none⟩) c (s.modify t (It.sethas j b)) _ := ⟨by rw [hlen]; exact hV.out.1.1.far (p := ⟨gx, j, none⟩) hpx _, hset, hV.out.1.2.2.1, m4, hits⟩
        have hS1 := hV.out.2.2.2.2.1.far (p := ⟨gx, j, none⟩) hbx (.int .i64 b)
        have hT1 := hV.out.2.2.2.1.setCell (p := ⟨gx, j, none⟩) hgxF (.int .i64 b)
        have hcall := isYoung_any (V.setCell ⟨gx, j, none⟩ (.int .i64 b)) base p bb F nu b (s.modify t (It.sethas j b)) ⟨_, c, _, hHpL⟩ (by rw [List.length_modify]; exact hbv) (by rw [List.length_modify]; have := H.out.2.2.2.2.2.2.1.small; omega)
        rw [isYg_sethas] at hcall
        have hst0 : stAt s t = some xs := stAt_get HX.out.2.2.2.2.2.2.1
        have hsg : setG ⟨dd, (t : Int), b, (j : Int)⟩ s = s.modify t (It.sethas j b) := by unfold setG; simp
        have HB := Lib.hid (And.intro hHpL (And.intro hS1 (And.intro hT1 (And.intro hst0 hsg))))
        clear hHpL hS1 hT1 hst0 hset hits hlen hbv hsub hown hold hjx hgx1 hsg
        obtain ⟨yg, hyg⟩ : ∃ yg, isYg s b = yg := ⟨_, rfl⟩
        rw [hyg] at hcall
        have HY2 := Lib.hid (And.intro hcall hyg); clear hcall hyg
        by_cases hxs : xs = 1
        · subst hxs
          cases yg with
          | true =>
            go_wp2_with fail
            refine HY2.out.1.mono ?_
            rintro e w5 ⟨rfl, rfl⟩
            go_upto_region 12 with fail
            refine wp_world (fun U => U.cell? ⟨p, 2, none⟩ = some (.map (some bb)) ∧ U.cell? ⟨w.heap.size, 1, none⟩ = some (.int .i64 (t : Int)) ∧ Hid (HpL U base F p nu bb (some ⟨g, 0, none⟩) c (s.modify t (It.sethas j b)) _ ∧ Set_ U bb m D ∧ Touch F w U)) ⟨HB.out.1.1.cell 2 rfl, (hV.out.2.1.far (p := ⟨gx, j, none⟩) hDx _).cell 1 rfl, HB.out.1, HB.out.2.1, HB.out.2.2.1⟩ ?_
            rintro U ⟨f1, f2, hU⟩
            clear p3 e1 e2 e3 x0 x1 holdc hfz
            have HG5 := Lib.hid (And.intro (hU.out.2.1.drewN 1) (And.intro (H.out.2.2.2.2.1.set_put HB.out.2.1.isMap t j b HB.out.2.2.2.1 HY2.out.2) (H.out.2.2.2.2.2.1.put t)))
            go_still_tail 7, (by kernel_rfl)
            change wpList _ _ _ _ _ (World.drew _)
            go_wp2_with (at_mapUpdate; go_must (refine wpList_mapUpdate_own _ rfl _ _ _ 166 rfl 3 167 keyInt Try.underlying166 _ bb m D rfl HG5.out.1 (by simp only [maxLen]; omega) _ _ _ rfl rfl (keyOf_int_mk Try.underlying3 (WalkArith.wf_i64 (by omega))) (.agg []) [] unitElem_mk ?_); intro w8 hown8 hgr8; have h8a := Its.turned (hU.out.1.2.1.drewN 1) HG5.out.1 hgr8; have h8b := Blk.turned (hU.out.1.1.drewN 1) HG5.out.1 hgr8; have hT8 := (hU.out.2.2.drewN 1).grown hgr8 (fun g hg => by injection hg with hg; rw [← hg]; exact H.out.2.2.1); have HZ := Lib.hid (And.intro h8a (And.intro h8b (And.intro hT8 hown8))); clear h8a h8b hT8 hown8 hgr8)
            rw [← HP.out.1]
            exact ⟨by rw [HR.out] <;> rfl, fun h => absurd HR.out h, fun _ => by rw [HB.out.2.2.2.2]; exact ⟨bb, _, ⟨_, c, _, HZ.out.2.1, HZ.out.1, HB.out.1.2.2.1, m4, HB.out.1.2.2.2.2⟩, HZ.out.2.2.2, H.out.2.2.1, H.out.2.2.2.1, HG5.out.2.1, HG5.out.2.2⟩, HZ.out.2.2.1⟩
          | false =>
            have hrem := H.out.2.2.2.2.1.set_same t j b (fun h => by have := h.2; rw [HY2.out.2] at this; cases this)
            have HM := Lib.hid hrem; clear hrem
            go_wp2_with fail
            refine HY2.out.1.mono ?_
            rintro e w5 ⟨rfl, rfl⟩
            go_wp2_with fail
            rw [← HP.out.1]
            exact ⟨by rw [HR.out] <;> rfl, fun h => absurd HR.out h, fun _ => by rw [HB.out.2.2.2.2]; exact ⟨bb, D, ⟨_, c, _, HB.out.1⟩, HB.out.2.1.mono (Nat.le_succ m), H.out.2.2.1, H.out.2.2.2.1, HM.out, H.out.2.2.2.2.2.1⟩, HB.out.2.2.1⟩
        · have hrem := H.out.2.2.2.2.1.set_same t j b (fun h => by have := h.1; rw [HB.out.2.2.2.1] at this; injection this with this; exact hxs this)
          have d5 : (xs == 1) = false := by simpa using hxs
          have HM := Lib.hid hrem; clear hrem hxs
          go_wp2_with fail
          rw [← HP.out.1]
          exact ⟨by rw [HR.out] <;> rfl, fun h => absurd HR.out h, fun _ => by rw [HB.out.2.2.2.2]; exact ⟨bb, D, ⟨_, c, _, HB.out.1⟩, HB.out.2.1.mono (Nat.le_succ m), H.out.2.2.1, H.out.2.2.2.1, HM.out, H.out.2.2.2.2.2.1⟩, HB.out.2.2.1⟩
    · have hE : E = namedE s (setL ⟨dd, a, b, n⟩) := HP.out.2.symm.trans (setE_named hn0)
      obtain ⟨q, hq⟩ : ∃ q, namedE s (setL ⟨dd, a, b, n⟩) = q := ⟨_, rfl⟩
      rw [hq] at hE hn0 ⊢
      have d1 : (q != 0) = true := by simpa using hn0
      have HN := Lib.hid (And.intro hn0 hE); clear hn0 hE hq
      go_wp2_with fail
      rw [← HP.out.1]
      exact ⟨by rw [HN.out.2]; rfl, fun _ => HG.out, fun h => absurd (HN.out.2.symm.trans h) HN.out.1, Touch.ofBelow HD.out.2.1⟩

end Go.Proofs.Ytpkccpegdpodoaa

/- gens: Do. -/
namespace Go.Proofs.Ytpkccpegdpodoaa
open Go.RowKit Go.Maps Go.WideShapes

attribute [local go_sem ↓] Go.wp_at_zero Go.wp_at_succ

/-- what a deed leaves -/
def GdoPost (base p : Nat) (F : Nat → Prop) (nu : Int) (m : Nat) (w : World) (r : Int × Int × List It) (e : Ending) (w' : World) : Prop :=
  e = .returned (.tuple #[.int .i64 r.1, .int .i64 r.2.1]) ∧ Gn w' base (Up F w w') p nu (m + 1) r.2.2 ∧ Touch F w w'
theorem GdoPost.of {base p m k : Nat} {F : Nat → Prop} {nu : Int} {w w' : World} {r : Int × Int × List It} {e : Ending} {x y : Int} {s' : List It} (hr : r = (x, y, s')) (he : e = .returned (.tuple #[.int .i64 x, .int .i64 y])) (hk : k ≤ m + 1) (hg : Gn w' base (Up F w w') p nu k s') (hT : Touch F w w') : GdoPost base p F nu m w r e w' := by
  subst hr; exact ⟨he, hg.more hk, hT⟩
theorem GdoPost.same {base p m k : Nat} {F : Nat → Prop} {nu : Int} {w w' : World} {r : Int × Int × List It} {e : Ending} {x y : Int} {s' : List It} (hr : r = (x, y, s')) (he : e = .returned (.tuple #[.int .i64 x, .int .i64 y])) (hk : k ≤ m + 1) (hg : Gn w' base F p nu k s') (hT : Touch F w w') : GdoPost base p F nu m w r e w' :=
  .of hr he hk (hg.mono fun g h => .inl h) hT
theorem GdoPost.er {base p m k : Nat} {F : Nat → Prop} {nu : Int} {w W w' : World} {r : Int × Int × List It} {e : Ending} {s s' : List It} {E : Int} (hr : r = if E ≠ 0 then (0, E, s) else (0, 0, s')) (he : e = .returned (.tuple #[.int .i64 0, .int .i64 E])) (hk : k ≤ m + 1) (h1 : E ≠ 0 → Gn w' base F p nu k s) (h2 : E = 0 → Gn w' base F p nu k s') (hW : Below w.heap.size w W) (hT : Touch F W w') : GdoPost base p F nu m w r e w' := by
  have ht := (Touch.ofBelow hW).trans hT
  by_cases h0 : E = 0
  · rw [if_neg (by simpa using h0)] at hr
    subst h0
    exact .same hr he hk (h2 rfl) ht
  · rw [if_pos h0] at hr
    exact .same hr he hk (h1 h0) ht

set_option maxHeartbeats 1600000 in
set_option maxRecDepth 100000 in
theorem gdo_any (w : World) (base p m : Nat) (F : Nat → Prop) (nu dd a b n : Int) (s : List It) (h : Gn w base F p nu m s) (hi : GInv s) (hF : ∀ g, F g → g < w.heap.size) (hd : I64 a ∧ I64 b ∧ I64 n) (hm : m ≤ 1000) :
    Calls Try.prog 87 #[.pointer (some ⟨p, 0, none⟩), .agg #[.int .i64 dd, .int .i64 a, .int .i64 b, .int .i64 n]] w (GdoPost base p F nu m w (gensI nu s ⟨dd, a, b, n⟩)) := by
  obtain ⟨P, hP⟩ : ∃ P, GdoPost base p F nu m w (gensI nu s ⟨dd, a, b, n⟩) = P := ⟨_, rfl⟩
  have HP := Lib.hid hP
  rw [hP]; clear hP
  obtain ⟨W, hW⟩ : ∃ W, W = w.alloc (.cells #[.int .i64 dd, .int .i64 a, .int .i64 b, .int .i64 n] 97) := ⟨_, rfl⟩
  have hbW : Below w.heap.size w W := by rw [hW]; exact (Below.refl _ _).alloc (Nat.le_refl _) _
  have hsW : w.heap.size < W.heap.size := by rw [hW]; simp
  have hFW : ∀ g, F g → g < W.heap.size := fun g hg => by have := hF g hg; omega
  have hs1 := hi.small
  have H := Lib.hid (And.intro (h.fresh hbW) (And.intro hi (And.intro hFW (And.intro hd (And.intro hbW hW))))); clear h hi hF hFW hd hbW hW
  by_cases h1 : dd = 1
  · subst h1
    have hr : gensI nu s ⟨1, a, b, n⟩ = if newE s n ≠ 0 then (0, newE s n, s) else ((s.length : Int), 0, roomI nu s ++ [newI 0 n]) := if_pos rfl
    by_cases he : newE s n = 0
    · rw [if_neg (by simpa using he)] at hr
      have HR := Lib.hid (And.intro hr he); clear hr he
      go_enter Try.func87, Try.ntmps87
      go_wp2_with fail
      refine calls_world (fun V => W = V) H.out.2.2.2.2.2 ?_
      rintro V rfl
      refine (gmake_yes W base p m F nu n s H.out.1 H.out.2.1 H.out.2.2.1 HR.out.2).mono ?_
      rintro e w1 ⟨rfl, hm1, hT1⟩
      have HZ := Lib.hid (And.intro (hm1.mono (fun g hg => Up.from (Nat.le_of_lt hsW) hg)) ((Touch.ofBelow H.out.2.2.2.2.1).trans hT1)); clear hm1 hT1
      go_wp2_with fail
      rw [← HP.out]
      exact GdoPost.of HR.out.1 rfl (Nat.le_succ m) HZ.out.1 HZ.out.2
    · rw [if_pos (by simpa using he)] at hr
      have hG := H.out.1
      obtain ⟨bb, D, hHp, -⟩ := hG
      have HR := Lib.hid (And.intro hr (And.intro he hHp)); clear hr he hHp
      go_enter Try.func87, Try.ntmps87
      go_wp2_with fail
      refine calls_world (fun V => W = V) H.out.2.2.2.2.2 ?_
      rintro V rfl
      refine (gmake_no W base p bb F nu n s HR.out.2.2 (by omega) HR.out.2.1).mono ?_
      rintro e w1 ⟨rfl, rfl⟩
      go_wp2_with fail
      rw [← HP.out]
      exact GdoPost.same HR.out.1 rfl (Nat.le_succ m) H.out.1 (Touch.ofBelow H.out.2.2.2.2.1)
  have d1 : (dd == 1) = false := by simpa using h1
  by_cases h2 : dd = 2
  · subst h2
    have hr : gensI nu s ⟨2, a, b, n⟩ = if setE s ⟨2, a, b, n⟩ ≠ 0 then (0, setE s ⟨2, a, b, n⟩, s) else (0, 0, setG ⟨2, a, b, n⟩ s) := by
      unfold gensI
      rw [if_neg h1, if_pos rfl]
    have HR := Lib.hid hr; clear hr d1 h1
    go_enter Try.func87, Try.ntmps87
    go_wp2_with fail
    refine calls_world (fun V => W = V) H.out.2.2.2.2.2 ?_
    rintro V rfl
    refine (gset_any W base p m F nu 2 a b n s H.out.1 H.out.2.1 H.out.2.2.2.1 hm).mono ?_
    rintro e w1 ⟨rfl, k1, k2, k3⟩
    have HZ := Lib.hid (And.intro k1 (And.intro k2 k3)); clear k1 k2 k3
    go_wp2_with fail
    rw [← HP.out]
    exact GdoPost.er HR.out rfl (Nat.le_refl _) HZ.out.1 HZ.out.2.1 H.out.2.2.2.2.1 HZ.out.2.2
  have d2 : (dd == 2) = false := by simpa using h2
  by_cases h4 : dd = 4
  · subst h4
    have hr : gensI nu s ⟨4, a, b, n⟩ = if holdE s ⟨4, a, 0, 0⟩ ≠ 0 then (0, holdE s ⟨4, a, 0, 0⟩, s) else (0, 0, s.modify a.toNat (It.sethl true)) := by
      unfold gensI
      rw [if_neg h1, if_neg h2, if_pos (.inl rfl)]; rfl
    have HR := Lib.hid hr; clear hr d1 h1 d2 h2
    go_enter Try.func87, Try.ntmps87
    go_wp2_with fail
    refine calls_world (fun V => W = V) H.out.2.2.2.2.2 ?_
    rintro V rfl
    refine (ghold_any W base p m F nu 4 a true s H.out.1 H.out.2.1 H.out.2.2.2.1.1 rfl (.inr rfl)).mono ?_
    rintro e w1 ⟨rfl, k1, k2, k3⟩
    have HZ := Lib.hid (And.intro k1 (And.intro k2 k3)); clear k1 k2 k3
    go_wp2_with fail
    rw [← HP.out]
    exact GdoPost.er HR.out rfl (Nat.le_succ m) HZ.out.1 HZ.out.2.1 H.out.2.2.2.2.1 HZ.out.2.2
  have d4 : (dd == 4) = false := by simpa using h4
  by_cases h3 : dd = 3
  · subst h3
    have hr : gensI nu s ⟨3, a, b, n⟩ = if holdE s ⟨3, a, 0, 0⟩ ≠ 0 then (0, holdE s ⟨3, a, 0, 0⟩, s) else (0, 0, s.modify a.toNat (It.sethl false)) := by
      unfold gensI
      rw [if_neg h1, if_neg h2, if_pos (.inr rfl)]; rfl
    have HR := Lib.hid hr; clear hr d1 h1 d2 h2 d4 h4
    go_enter Try.func87, Try.ntmps87
    go_wp2_with fail
    refine calls_world (fun V => W = V) H.out.2.2.2.2.2 ?_
    rintro V rfl
    refine (ghold_any W base p m F nu 3 a false s H.out.1 H.out.2.1 H.out.2.2.2.1.1 rfl (.inl rfl)).mono ?_
    rintro e w1 ⟨rfl, k1, k2, k3⟩
    have HZ := Lib.hid (And.intro k1 (And.intro k2 k3)); clear k1 k2 k3
    go_wp2_with fail
    rw [← HP.out]
    exact GdoPost.er HR.out rfl (Nat.le_succ m) HZ.out.1 HZ.out.2.1 H.out.2.2.2.2.1 HZ.out.2.2
  have d3 : (dd == 3) = false := by simpa using h3
  by_cases h6 : dd = 6
  · subst h6
    have hr : gensI nu s ⟨6, a, b, n⟩ = ((minorN s : Int), 0, minorI s) := by
      unfold gensI
      rw [if_neg h1, if_neg h2, if_neg (fun h => h.elim h4 h3), if_pos rfl]
    have HR := Lib.hid hr; clear hr d1 h1 d2 h2 d4 h4 d3 h3
    go_enter Try.func87, Try.ntmps87
    go_wp2_with fail
    refine calls_world (fun V => W = V) H.out.2.2.2.2.2 ?_
    rintro V rfl
    refine (minor_any W base p m F nu s H.out.1 H.out.2.1 H.out.2.2.1).mono ?_
    rintro e w1 ⟨rfl, k1, k2⟩
    have HZ := Lib.hid (And.intro k1 ((Touch.ofBelow H.out.2.2.2.2.1).trans k2)); clear k1 k2
    go_wp2_with fail
    rw [← HP.out]
    exact GdoPost.same HR.out rfl (Nat.zero_le _) HZ.out.1 HZ.out.2
  have d6 : (dd == 6) = false := by simpa using h6
  by_cases h7 : dd = 7
  · subst h7
    have hr : gensI nu s ⟨7, a, b, n⟩ = ((majorN s : Int), 0, majorI s) := by
      unfold gensI
      rw [if_neg h1, if_neg h2, if_neg (fun h => h.elim h4 h3), if_neg h6, if_pos rfl]
    have HR := Lib.hid hr; clear hr d1 h1 d2 h2 d4 h4 d3 h3 d6 h6
    go_enter Try.func87, Try.ntmps87
    go_wp2_with fail
    refine calls_world (fun V => W = V) H.out.2.2.2.2.2 ?_
    rintro V rfl
    refine (major_any W base p m F nu s H.out.1 H.out.2.1 H.out.2.2.1).mono ?_
    rintro e w1 ⟨rfl, k1, k2⟩
    have HZ := Lib.hid (And.intro k1 ((Touch.ofBelow H.out.2.2.2.2.1).trans k2)); clear k1 k2
    go_wp2_with fail
    rw [← HP.out]
    exact GdoPost.same HR.out rfl (Nat.zero_le _) HZ.out.1 HZ.out.2
  have d7 : (dd == 7) = false := by simpa using h7
  have hr : gensI nu s ⟨dd, a, b, n⟩ = (0, 7, s) := by
    unfold gensI
    rw [if_neg h1, if_neg h2, if_neg (fun h => h.elim h4 h3), if_neg h6, if_neg h7]
  have HR := Lib.hid hr; clear hr h1 h2 h4 h3 h6 h7
  go_enter Try.func87, Try.ntmps87
  go_wp2_with fail
  rw [← HP.out, ← H.out.2.2.2.2.2]
  exact GdoPost.same HR.out rfl (Nat.le_succ m) H.out.1 (Touch.ofBelow H.out.2.2.2.2.1)

end Go.Proofs.Ytpkccpegdpodoaa

/- Two generations: who stays, come to round by round. No program is named here. -/
namespace Go.Proofs.Ytpkccpegdpodoaa

/-- what a round keeps: who stayed ahead of it, who does now, whether there is more -/
structure PInv (s : List It) (s0 st : List Bool) (m : Bool) : Prop where
  len : st.length = s.length
  len0 : s0.length = s.length
  sound : ∀ n : Nat, st[n]? = some true → Yg s n
  grows : Grows s0 st
  same : m = false → st = s0
  less : unseen st + (if m = true then 1 else 0) ≤ unseen s0
def HClosed (s : List It) (st : List Bool) (i : Nat) : Prop := ∀ k : Nat, k < i → stAt s k = some 0 → heldAt s k → st[k]? = some true
def VClosed (s : List It) (s0 st : List Bool) (i j : Nat) : Prop :=
  ∀ (n k : Nat) (x : It), (stAt s n = some 1 ∨ s0[n]? = some true) → s[n]? = some x → stAt s k = some 0 → (n < i ∧ (k : Int) ∈ x.has ∨ n = i ∧ (k : Int) ∈ x.has.take j) → st[k]? = some true
section
variable {s : List It} {s0 st st' : List Bool} {m : Bool} {i j : Nat}
theorem PInv.start (s : List It) {st : List Bool} (h1 : st.length = s.length) (h2 : ∀ n : Nat, st[n]? = some true → Yg s n) : PInv s st st false := ⟨h1, h1, h2, Grows.refl _, fun _ => rfl, by simp⟩
theorem PInv.see (h : PInv s s0 st m) {k : Nat} (hk : st[k]? = some false) (hy : Yg s k) : PInv s s0 (st.set k true) true := by
  have hkl : k < st.length := (List.getElem?_eq_some_iff.1 hk).1
  have h2 := unseen_set hk
  refine ⟨by simp [h.len], h.len0, fun n hn => ?_, fun n hn => (set_true_get hkl).2 (.inr (h.grows n hn)), (fun hm => by cases hm), ?_⟩
  · rcases (set_true_get hkl).1 hn with rfl | hn
    · exact hy
    · exact h.sound n hn
  · have := h.less
    simp
    omega
theorem HClosed.grow (h : HClosed s st i) (hg : Grows st st') : HClosed s st' i := fun k hk h0 hh => hg k (h k hk h0 hh)
theorem VClosed.grow (h : VClosed s s0 st i j) (hg : Grows st st') : VClosed s s0 st' i j := fun n k x h1 h2 h3 h4 => hg k (h n k x h1 h2 h3 h4)
theorem HClosed.zero (s : List It) (st : List Bool) : HClosed s st 0 := fun k hk => absurd hk (Nat.not_lt_zero _)
theorem VClosed.zero (s : List It) (s0 st : List Bool) : VClosed s s0 st 0 0 := fun n k x _ _ _ h => by
  rcases h with ⟨h, _⟩ | ⟨_, h⟩
  · omega
  · simp at h
theorem HClosed.next (h : HClosed s st i) (hs : stAt s i = some 0 → heldAt s i → st[i]? = some true) : HClosed s st (i + 1) := fun k hk h0 hh => by
  rcases Nat.lt_or_ge k i with h1 | h1
  · exact h k h1 h0 hh
  · obtain rfl : k = i := by omega
    exact hs h0 hh
theorem VClosed.next (h : VClosed s s0 st i j) {x : It} {z : Int} (hx : s[i]? = some x) (hz : x.has[j]? = some z) (hs : (stAt s i = some 1 ∨ s0[i]? = some true) → ∀ k : Nat, z = (k : Int) → stAt s k = some 0 → st[k]? = some true) : VClosed s s0 st i (j + 1) := fun n k y h1 h2 h3 h4 => by
  rcases h4 with h4 | ⟨rfl, h4⟩
  · exact h n k y h1 h2 h3 (.inl h4)
  · rw [hx] at h2; injection h2 with h2; subst h2
    rw [List.take_add_one, hz] at h4
    rcases List.mem_append.1 h4 with h4 | h4
    · exact h n k _ h1 hx h3 (.inr ⟨rfl, h4⟩)
    · simp at h4
      exact hs h1 k h4.symm h3
theorem VClosed.done (h : VClosed s s0 st i j) {x : It} (hx : s[i]? = some x) (hj : x.has.length ≤ j) : VClosed s s0 st (i + 1) 0 := fun n k y h1 h2 h3 h4 => by
  rcases h4 with ⟨h4, h5⟩ | ⟨_, h4⟩
  · rcases Nat.lt_or_ge n i with hn | hn
    · exact h n k y h1 h2 h3 (.inl ⟨hn, h5⟩)
    · obtain rfl : n = i := by omega
      rw [hx] at h2; injection h2 with h2; subst h2
      exact h n k _ h1 hx h3 (.inr ⟨rfl, by rw [List.take_of_length_le hj]; exact h5⟩)
  · simp at h4
theorem PInv.fin (h : PInv s s0 st false) (h1 : HClosed s st s.length) (h2 : VClosed s s0 st s.length 0) : st = ygL s := by
  have e := h.same rfl
  refine ygL_eq ⟨h.len, h.sound⟩ ⟨fun k h0 hh => h1 k (stAt_lt h0) h0 hh, fun i k hi he h0 => ?_⟩
  obtain ⟨x, hx, hk⟩ := he
  exact h2 i k x (by rw [← e]; exact hi) hx h0 (.inl ⟨(List.getElem?_eq_some_iff.1 hx).1, hk⟩)
end

/-! ### the young ones are gone through -/
theorem risingFrom_filter (p : Nat → Bool) : ∀ (l : List Bool) (i : Nat), (risingFrom i l).filter (fun k => p k.toNat) = risingFrom i (l.mapIdx fun n b => b && p (i + n))
  | [], i => by simp [risingFrom]
  | b :: l, i => by
    rw [List.mapIdx_cons, risingFrom, risingFrom]
    have ih := risingFrom_filter p l (i + 1)
    have he : (fun n (b : Bool) => b && p (i + 1 + n)) = fun n b => b && p (i + (n + 1)) := by
      funext n b; rw [show i + 1 + n = i + (n + 1) by omega]
    rw [he] at ih
    cases b with
    | false => simpa using ih
    | true =>
      simp only [if_true, Nat.add_zero, Bool.true_and]
      rw [List.filter_cons, Int.toNat_natCast, ih]
theorem rising_filter (p : Nat → Bool) (l : List Bool) : (rising l).filter (fun k => p k.toNat) = rising (l.mapIdx fun n b => b && p n) := by
  have := risingFrom_filter p l 0
  simpa [rising] using this
theorem are_filter_out (s : List It) (st : List Bool) : (are s 0).filter (fun k => !st.getD k.toNat false) = outL [0] st s := by
  unfold are outL outB
  rw [rising_filter (fun n => !st.getD n false)]
  congr 1
  apply List.ext_getElem?
  intro i
  rw [List.getElem?_mapIdx, List.getElem?_mapIdx, List.getElem?_map]
  cases s[i]? with
  | none => rfl
  | some x =>
    simp only [Option.map_some]
    congr 2
    by_cases h : x.st = 0
    · simp [h]
    · have : ¬ x.st ∈ [(0 : Int)] := by simpa using h
      rw [decide_eq_false h, Bool.eq_false_iff.2 (fun e => this (List.contains_iff_mem.1 e))]
theorem setAll_stay (s : List It) (st : List Bool) : setAll ((are s 0).filter fun k => st.getD k.toNat false) 1 s = stayL [0] st s := by
  apply List.ext_getElem?
  intro i
  cases hs : s[i]? with
  | none =>
    have hi : s.length ≤ i := by rw [List.getElem?_eq_none_iff] at hs; exact hs
    rw [List.getElem?_eq_none (by rw [setAll_length]; exact hi), List.getElem?_eq_none (by rw [stayL_length]; exact hi)]
  | some x =>
    rw [setAll_get _ 1 s i x hs (fun k hk => by
      have := (List.mem_filter.1 hk).1
      unfold are at this
      obtain ⟨n, rfl, -⟩ := (mem_rising _ _).1 this
      omega), stayL_get [0] st s i hs]
    congr 1
    unfold stayX
    have hc : ((are s 0).filter fun k => st.getD k.toNat false).contains (i : Int) = ([(0 : Int)].contains x.st && st.getD i false) := by
      rw [Bool.eq_iff_iff, List.contains_iff_mem, List.mem_filter, Int.toNat_natCast, ← List.contains_iff_mem, are_contains, stAt_get hs, Bool.and_eq_true, List.contains_iff_mem]
      simp
    rw [hc]

end Go.Proofs.Ytpkccpegdpodoaa

/- R.Model: minor: the rounds. -/
namespace Go.Proofs.Ytpkccpegdpodoaa
open Go.RowKit Go.Maps Go.WideShapes

attribute [local go_sem ↓] Go.wp_at_zero Go.wp_at_succ

theorem MdlA.fresh {w w' : World} {base p : Nat} {F : Nat → Prop} {nu kind : Int} {mk : Bool} {A : Option Addr} {c : Nat} {s : List It} (h : MdlA w base F p nu kind mk A c s) (hb : Below w.heap.size w w') : MdlA w' base F p nu kind mk A c s := by
  obtain ⟨l, h1, h2, h3, h4, h5⟩ := h
  exact ⟨l, h1.fresh hb, h2.fresh hb, h3, h4, h5⟩
theorem MdlA.get {w : World} {base p : Nat} {F : Nat → Prop} {nu kind : Int} {mk : Bool} {A : Option Addr} {c : Nat} {s : List It} (h : MdlA w base F p nu kind mk A c s) {i : Nat} {x : It} (hx : s[i]? = some x) :
    ∃ (g : Nat) (XA : Option Addr) (xc : Nat), A = some ⟨g, 0, none⟩ ∧ w.cell? ⟨g, i * 3, none⟩ = some (.slice XA x.has.length xc) ∧ w.cell? ⟨g, i * 3 + 1, none⟩ = some (.int .i64 x.st) ∧ w.cell? ⟨g, i * 3 + 2, none⟩ = some (.bool x.held) ∧
      Own w base 3 XA xc x.has ∧ (∀ k, rowOf XA = some k → F k) ∧ (∀ k ∈ x.has, I64 k) ∧ F g ∧ g < w.heap.size := by
  obtain ⟨l, h1, h2, h3, h4, h5⟩ := h
  rw [← h5] at hx
  obtain ⟨y, hy, rfl⟩ := get_its hx
  obtain ⟨g, rfl, hg1, hg2, q0, q1, q2⟩ := h2.cells hy
  have hs := h2.sub i y hy
  exact ⟨g, y.A, y.c, rfl, q0, q1, q2, hs.1, hs.2.1, hs.2.2.1, h2.foot g rfl, hg2⟩
theorem MdlA.top {w : World} {base p : Nat} {F : Nat → Prop} {nu kind : Int} {mk : Bool} {A : Option Addr} {c : Nat} {s : List It} (h : MdlA w base F p nu kind mk A c s) : w.cell? ⟨p, 0, none⟩ = some (.slice A s.length c) ∧ p < w.heap.size := by
  obtain ⟨l, h1, h2, h3, h4, h5⟩ := h
  have hl : l.length = s.length := by rw [← h5, its_length]
  exact ⟨by rw [← hl]; exact h1.cell 0 rfl, h1.lt⟩

/-- the rounds' state -/
def RmSt (s : List It) (lb N : Nat) (s0 : List Bool) (q i j : Nat) (V : World) (st : List Bool) (m : Bool) : Prop :=
  Own V lb 4 (some ⟨lb, 0, none⟩) N st ∧ PInv s s0 st m ∧ HClosed s st q ∧ VClosed s s0 st i j

set_option maxHeartbeats 6400000 in
set_option maxRecDepth 100000 in
theorem rminor_any (w : World) (base p : Nat) (F : Nat → Prop) (nu kind : Int) (mk : Bool) (s : List It) (h : Mdl w base F p nu kind mk s) (hi : GInv s) (hF : ∀ g, F g → g < w.heap.size) :
    Calls Try.prog 159 #[.pointer (some ⟨p, 0, none⟩)] w fun e w' => e = .returned (.int .i64 (minorN s)) ∧ Mdl w' base F p nu kind mk (minorI s) ∧ Touch F w w' := by
  obtain ⟨N, hN⟩ : ∃ N, s.length = N := ⟨_, rfl⟩
  have hN100 : N ≤ 100 := by have := hi.small; omega
  have hmk := Go.run_make_row' (P := Try.prog) 60 4 (.bool false) 1 Try.underlying60 infoBool rfl .i64 .i64 N (by omega) (by omega)
  obtain ⟨i0, hi0, hz0, hz1, hz2⟩ := info_parts infoInt
  obtain ⟨A, c, hA⟩ := h
  obtain ⟨c1, hplt⟩ := hA.top
  rw [hN] at c1
  have H := Lib.hid (And.intro hA (And.intro hi (And.intro hN hF))); clear hA hi hN hF
  go_enter Try.func159, Try.ntmps159
  go_wp2_with fail
  clear c1
  refine wp_world (fun W => Own W w.heap.size 4 (some ⟨w.heap.size, 0, none⟩) N (List.replicate N false) ∧ Below w.heap.size w W ∧ w.heap.size < W.heap.size) ⟨own_made w w.heap.size 4 N (Nat.le_refl _) (by simp only [maxLen]; omega), (Below.refl _ _).alloc (Nat.le_refl _) _, by simp⟩ ?_
  rintro W ⟨hO, hb0, hs0⟩
  have H0 := Lib.hid hO; clear hO hmk
  go_loopg [4] (N + 1) (fun gk mv wr => ∃ (st : List Bool) (m : Bool), mv = .bool m ∧ gk = (if m = true then unseen st + 1 else 0) ∧ Hid (Own wr w.heap.size 4 (some ⟨w.heap.size, 0, none⟩) N st ∧ st.length = s.length ∧ (∀ n : Nat, st[n]? = some true → Yg s n) ∧ (m = false → st = ygL s)) ∧ Below w.heap.size w wr ∧ w.heap.size < wr.heap.size)
  case atStart =>
    exact ⟨List.replicate N false, true, rfl, by simp [unseen, List.countP_replicate], ⟨H0.out, by rw [List.length_replicate]; exact H.out.2.2.1.symm, fun n hn => by rw [List.getElem?_replicate] at hn; split at hn <;> simp at hn, fun h => by cases h⟩, hb0, hs0⟩
  case round =>
    obtain ⟨st, m, rfl, rfl, hkeep, hbl, hsz⟩ := hrel
    clear hb0 hs0
    cases m with
    | false =>
      have hst := hkeep.out.2.2.2 rfl
      have hO := hkeep.out.1
      rw [hst] at hO
      have hyl : (ygL s).length = N := by rw [ygL_length]; exact H.out.2.2.1
      have HF := Lib.hid (And.intro hO hyl); clear hkeep hO hyl hst
      go_wp2_with fail
      refine (are_any wr base p F nu kind 0 mk s ⟨A, c, H.out.1.fresh hbl⟩ H.out.2.1.small).mono ?_
      rintro e w1 ⟨RA, rc, rfl, ho1, hb1⟩
      have hs1 := hb1.size
      obtain ⟨q, hq⟩ : ∃ q, (are s 0).length = q := ⟨_, rfl⟩
      rw [hq]
      have hbw : Below w.heap.size w w1 := hbl.trans (hb1.mono (by omega))
      have hq100 : q ≤ 100 := by have := are_len s 0; have := H.out.2.2.1; omega
      have HR := Lib.hid (And.intro ho1 (And.intro hq (And.intro (HF.out.1.fresh hb1) (And.intro hbw (H.out.1.fresh hbw))))); clear ho1 hq hb1 hbw
      go_wp2_with fail
      go_loopg [9, 92] q (fun gk ov iv wq => ∃ (k m : Nat) (OA : Option Addr) (oc : Nat), k ≤ q ∧ gk = q - k ∧ iv = .int .i64 k ∧ ov = .slice OA m oc ∧ m ≤ k ∧ Hid (MdlA wq base F p nu kind mk A c (setAll (((are s 0).take k).filter fun z => (ygL s).getD z.toNat false) 1 s) ∧ Own wq w1.heap.size 3 OA oc (((are s 0).take k).filter fun z => !(ygL s).getD z.toNat false) ∧ (((are s 0).take k).filter fun z => !(ygL s).getD z.toNat false).length = m) ∧ Touch F w1 wq)
      case atStart => exact ⟨0, 0, none, 0, Nat.zero_le _, rfl, rfl, rfl, Nat.le_refl _, ⟨HR.out.2.2.2.2, Own.nil_, rfl⟩, Touch.refl _ _⟩
      case round =>
        obtain ⟨k, m, OA, oc, hk, rfl, rfl, rfl, hm, hkq, hT⟩ := hrel
        by_cases hlt : k < q
        · obtain ⟨z, hz⟩ : ∃ z, (are s 0)[k]? = some z := ⟨_, List.getElem?_eq_getElem (by have := HR.out.2.1; omega)⟩
          obtain ⟨n, rfl, hn0⟩ := are_mem (List.mem_of_getElem? hz)
          have hnN : n < N := by have := stAt_lt hn0; have := H.out.2.2.1; omega
          have ho := HR.out.1.touch_ hT (fun g hg hf => by have h1 := (HR.out.1.lt g hg).1; have h2 := H.out.2.2.2 g hf; omega)
          obtain ⟨gr, rfl, _, _⟩ := ho.some_ (by have := HR.out.2.1; omega)
          have z0 := ho.cell_int hz
          have hs := HR.out.2.2.1.touch_ hT (fun g hg hf => by injection hg with hg; have h2 := H.out.2.2.2 g hf; simp only at hg; omega)
          obtain ⟨u, hu⟩ : ∃ u, (ygL s)[n]? = some u := ⟨_, List.getElem?_eq_getElem (by have := HF.out.2; omega)⟩
          have s0 := hs.cell_bool hu
          have hgd : (ygL s).getD ((n : Int)).toNat false = u := by rw [Int.toNat_natCast, List.getD_eq_getElem?_getD, hu]; rfl
          have f1 := filter_snocM (are s 0) (fun z => (ygL s).getD z.toNat false) k _ hz
          have f2 := filter_snocM (are s 0) (fun z => !(ygL s).getD z.toNat false) k _ hz
          simp only [hgd] at f1 f2
          obtain ⟨l, m1, m2, m3, m4, m5⟩ := hkq.out.1
          have hlN : l.length = N := by rw [← its_length, m5, setAll_length]; exact H.out.2.2.1
          obtain ⟨y, hy⟩ : ∃ y, l[n]? = some y := ⟨_, List.getElem?_eq_getElem (by omega)⟩
          obtain ⟨g, rfl, hg1, hg2, q0, q1, q2⟩ := m2.cells hy
          have m1' := m1
          rw [hlN] at m1'
          have p0 := m1'.cell 0 (v := .slice (some ⟨g, 0, none⟩) N c) rfl
          have z1 := m2.row.frozen (g := g) rfl (n * 3 + 1)
          have b0 : (0 : Int) ≤ (k : Int) := by omega
          have b1 : (k : Int) < (q : Int) := by omega
          have n0 : (0 : Int) ≤ (n : Int) := by omega
          have n1 : (n : Int) < (N : Int) := by omega
          have hne : p ≠ g := fun e => own_ne_ty m2.row m1 (by decide) (by rw [← e]; rfl)
          have hgF := m2.foot g rfl
          cases u with
          | true =>
            rw [if_pos rfl] at f1
            rw [if_neg (by simp), List.append_nil] at f2
            have hset := m2.setSt hy (by decide) 1 (by unfold I64; omega)
            have hits := its_set l n y { y with st := 1 } (It.setst 1) hy rfl
            have hbl2 := m1'.far (p := ⟨g, n * 3 + 1, none⟩) hne (.int .i64 1)
            have hln : (l.set n { y with st := 1 }).length = N := by rw [List.length_set]; exact hlN
            have hal : setAll (((are s 0).take (k + 1)).filter fun z => (ygL s).getD z.toNat false) 1 s = its (l.set n { y with st := 1 }) := by
              rw [hits, m5, f1]; unfold setAll; rw [List.foldl_append]; simp
            have hout := hkq.out.2.1.setCell ⟨g, n * 3 + 1, none⟩ (.int .i64 1) (own_own_ty m2.row hkq.out.2.1 (by decide) g rfl)
            have HX := Lib.hid (And.intro hset (And.intro hbl2 (And.intro hln (And.intro hal (And.intro hout (And.intro f2 (And.intro hkq.out.2.2 m3)))))))
            clear hset hits hbl2 hln hal hout f1 f2 hkq m1 m1' m2 m3 m5 hlN hy hz hu hgd ho hs
            go_wp2_with fail
            go_roundg (q - (k + 1))
            case measure => omega
            case rel => exact ⟨k + 1, m, OA, oc, by omega, rfl, by go_num, rfl, by omega, ⟨⟨_, by rw [HX.out.2.2.1]; exact HX.out.2.1, HX.out.1, HX.out.2.2.2.2.2.2.2, m4, HX.out.2.2.2.1.symm⟩, by rw [HX.out.2.2.2.2.2.1]; exact HX.out.2.2.2.2.1, by rw [HX.out.2.2.2.2.2.1]; exact HX.out.2.2.2.2.2.2.1⟩, hT.setCell hgF _⟩
          | false =>
            rw [if_neg (by simp), List.append_nil] at f1
            rw [if_pos (by rfl)] at f2
            have HX := Lib.hid (And.intro f1 (And.intro f2 hkq.out)); clear f1 f2 hkq m1 m1' m2 m3 m5 hlN hy hz hu hgd ho hs
            have hsT := hT.size
            go_wp2_with (at_builtin; go_must (refine wpList_app (α := Int) (n := m) (m := 1) (B := wr.heap.size + 1) (r := [(n : Int)]) rfl (.tmp 107) (.tmp 109) _ rfl w1.heap.size 3 i0 _ 8 Try.underlying47 hi0 hz0 hz1 hz2 rfl (by decide) int_one (by rfl) HX.out.2.2.2.2 (HX.out.2.2.2.1.alloc _) (by rfl) (At.built wr _ _ [(n : Int)] rfl (by intro z hz; simp at hz; subst hz; exact (by unfold I64; omega : I64 (n : Int)))) rfl (by omega) (by simp only [maxLen]; omega) (by simp; omega) ?_); intro A5 c5 w5 ho5 hgr5 hat5)
            have hb5 : Below w1.heap.size wr w5 := ((Below.refl w1.heap.size wr).alloc hsT _).grown hgr5 (by simp; omega) (fun g hg => (HX.out.2.2.2.1.lt g hg).1)
            have hT5 : Touch (fun g => w1.heap.size ≤ g) wr w5 := ⟨hb5.os, hb5.tape, hb5.output, (by have := hgr5.size; simp at this; omega), fun g _ hn => hb5.block g (by omega)⟩
            have hTF : Touch F w1 w5 := ⟨hb5.os.trans hT.os, hb5.tape.trans hT.tape, hb5.output.trans hT.output, Nat.le_trans hsT hT5.size, fun g hg hn => (hb5.block g hg).trans (hT.block g hg hn)⟩
            obtain ⟨l5, k1, k2, k3, k4, k5⟩ := HX.out.2.2.1
            have hFd : ∀ g, F g → ¬ w1.heap.size ≤ g := fun g hf => by have := H.out.2.2.2 g hf; have := HR.out.2.2.2.1.size; omega
            have HM : MdlA w5 base F p nu kind mk (some ⟨g, 0, none⟩) c (setAll (((are s 0).take k).filter fun z => (ygL s).getD z.toNat false) 1 s) := ⟨l5, k1.touch hT5 (hFd p k3), k2.touch hT5 hFd, k3, k4, k5⟩
            have HY := Lib.hid (And.intro HM (And.intro ho5 hTF)); clear HM ho5 k1 k2 k3 k5 hTF hT5 hb5 hgr5 hat5
            go_wp2_with fail
            go_roundg (q - (k + 1))
            case measure => omega
            case rel => exact ⟨k + 1, m + 1, A5, c5, by omega, rfl, by go_num, rfl, by omega, ⟨by rw [HX.out.1]; exact HY.out.1, by rw [HX.out.2.1]; exact HY.out.2.1, by rw [HX.out.2.1, List.length_append, HX.out.2.2.2.2]; rfl⟩, HY.out.2.2⟩
        · obtain rfl : q = k := by omega
          obtain ⟨f1, f2, f3⟩ := hkq.out
          rw [List.take_of_length_le (by have := HR.out.2.1; omega), setAll_stay] at f1
          rw [List.take_of_length_le (by have := HR.out.2.1; omega), are_filter_out] at f2 f3
          have HX := Lib.hid (And.intro f1 (And.intro f2 f3)); clear f1 f2 f3 hkq
          go_wp2_with fail
          refine (gone_any wr base w1.heap.size p m oc F nu kind 2 mk (stayL [0] (ygL s) s) OA (outL [0] (ygL s) s) ⟨A, c, HX.out.1⟩ HX.out.2.1 (fun g hg hf => by have h1 := (HX.out.2.1.lt g hg).1; have h2 := H.out.2.2.2 g hf; have := HR.out.2.2.2.1.size; omega) (fun x hx => by rw [stayL_length]; exact outL_in _ _ _ x hx) HX.out.2.2 (by rw [stayL_length]; exact H.out.2.1.small) (fun x hx => by
            obtain ⟨i, hi⟩ := List.mem_iff_getElem?.1 hx
            have hil : i < s.length := by rw [← stayL_length [0] (ygL s) s]; exact (List.getElem?_eq_some_iff.1 hi).1
            rw [stayL_get [0] (ygL s) s i (List.getElem?_eq_getElem hil)] at hi
            injection hi with hi
            have := H.out.2.1.long _ (List.getElem_mem hil)
            rw [← hi]; unfold stayX; split <;> exact this) (by unfold I64; omega)).mono ?_
          rintro e w5 ⟨rfl, k1, k2⟩
          have HY := Lib.hid (And.intro k1 ((Touch.ofBelow (F := F) HR.out.2.2.2.1).trans (hT.trans k2))); clear k1 k2
          go_wp2_with fail
          go_ret
          exact ⟨by unfold minorN; rw [HX.out.2.2]; rfl, HY.out.1, HY.out.2⟩
    | true =>
      have hA1 := H.out.1.fresh hbl
      have p1 := hA1.top.1
      rw [H.out.2.2.1] at p1
      go_wp2_with fail
      clear p1 hA1
      go_loopg [4, 24] N (fun gi mv iv wi => ∃ (i : Nat) (st1 : List Bool) (m1 : Bool), i ≤ N ∧ gi = N - i ∧ mv = .bool m1 ∧ iv = .int .i64 i ∧ Hid (RmSt s w.heap.size N st i i 0 wi st1 m1) ∧ Below w.heap.size w wi ∧ w.heap.size < wi.heap.size)
      case atStart =>
        exact ⟨0, st, false, Nat.zero_le _, rfl, rfl, rfl, ⟨hkeep.out.1, PInv.start s hkeep.out.2.1 hkeep.out.2.2.1, HClosed.zero _ _, VClosed.zero _ _ _⟩, hbl, hsz⟩
      case round =>
        obtain ⟨i, st1, m1, hi1, rfl, rfl, rfl, hk1, hbl1, hsz1⟩ := hrel
        by_cases hlt : i < N
        · obtain ⟨x, hx⟩ : ∃ x, s[i]? = some x := ⟨_, List.getElem?_eq_getElem (by have := H.out.2.2.1; omega)⟩
          obtain ⟨xh, xs, xb⟩ := x
          obtain ⟨wo, rfl⟩ : ∃ wo : World, wo = wr := ⟨_, rfl⟩
          obtain ⟨g, XA, xc, rfl, e0, e1, e2, e3, e4, e5, e6, e7⟩ := (H.out.1.fresh hbl1).get hx
          simp only at e0 e1 e2 e3 e5
          obtain ⟨u, hu⟩ : ∃ u, st1[i]? = some u := ⟨_, List.getElem?_eq_getElem (by have := hk1.out.2.1.len; have := H.out.2.2.1; omega)⟩
          have s1 := hk1.out.1.cell_bool hu
          have z1 := hk1.out.1.frozen (g := w.heap.size) rfl i
          have i0 : (0 : Int) ≤ (i : Int) := by omega
          have i1 : (i : Int) < (N : Int) := by omega
          have hgw := H.out.2.2.2 g e6
          obtain ⟨xn, hxn⟩ : ∃ n, xh.length = n := ⟨_, rfl⟩
          rw [hxn] at e0
          have hx10 : xn ≤ 10 := by have := H.out.2.1.long _ (List.mem_of_getElem? hx); simp only at this; omega
          have hil : i < st1.length := (List.getElem?_eq_some_iff.1 hu).1
          have HX := Lib.hid (And.intro hx (And.intro hu (And.intro hk1.out (And.intro e3 (And.intro e4 (And.intro e5 hxn)))))); clear hx hu hk1 e3 e4 e5 hxn
          have hst0 : stAt s i = some xs := stAt_get HX.out.1
          have hhl : heldAt s i ↔ xb = true := ⟨fun ⟨y, h1, h2⟩ => by rw [HX.out.1] at h1; injection h1 with h1; subst h1; exact h2, fun e => ⟨_, HX.out.1, e⟩⟩
          have hcs : ((xs == 0) = true ∧ xb = true ∧ u = false ∧ PInv s st (st1.set i true) true ∧ HClosed s (st1.set i true) (i + 1) ∧ VClosed s st (st1.set i true) i 0) ∨ ((xs == 0) = false ∧ PInv s st st1 m1 ∧ HClosed s st1 (i + 1) ∧ VClosed s st st1 i 0) ∨
              ((xs == 0) = true ∧ xb = false ∧ PInv s st st1 m1 ∧ HClosed s st1 (i + 1) ∧ VClosed s st st1 i 0) ∨ ((xs == 0) = true ∧ xb = true ∧ u = true ∧ PInv s st st1 m1 ∧ HClosed s st1 (i + 1) ∧ VClosed s st st1 i 0) := by
            have hgr := see_grows (s := st1) hil
            have hno : ¬ (xs = 0 ∧ xb = true ∧ u = false) → PInv s st st1 m1 ∧ HClosed s st1 (i + 1) ∧ VClosed s st st1 i 0 := fun hset => ⟨HX.out.2.2.1.2.1, HX.out.2.2.1.2.2.1.next (fun h0 hh => by
              rw [hst0] at h0; injection h0 with h0
              have hb := hhl.1 hh
              rw [HX.out.2.1]
              cases u with
              | true => rfl
              | false => exact absurd ⟨h0, hb, rfl⟩ hset), HX.out.2.2.1.2.2.2⟩
            by_cases h1 : xs = 0
            · cases xb with
              | false => exact .inr (.inr (.inl ⟨by simpa using h1, rfl, hno (fun h => by cases h.2.1)⟩))
              | true =>
                cases u with
                | true => exact .inr (.inr (.inr ⟨by simpa using h1, rfl, rfl, hno (fun h => by cases h.2.2)⟩))
                | false => exact .inl ⟨by simpa using h1, rfl, rfl, HX.out.2.2.1.2.1.see HX.out.2.1 (.held (by rw [hst0, h1]) (hhl.2 rfl)), (HX.out.2.2.1.2.2.1.grow hgr).next (fun _ _ => see_get hil), HX.out.2.2.1.2.2.2.grow hgr⟩
            · exact .inr (.inl ⟨by simpa using h1, hno (fun h => h1 h.1)⟩)
          clear hst0 hhl
          rcases hcs with ⟨d5, rfl, rfl, hC⟩ | ⟨d5, hC⟩ | ⟨d5, rfl, hC⟩ | ⟨d5, rfl, rfl, hC⟩
          have HC := Lib.hid hC; clear hC
          go_upto_region 10 with fail
          refine wp_world (fun V => Hid (RmSt s w.heap.size N st (i + 1) i 0 V (st1.set i true) true ∧ ∃ v, Blk V wo.heap.size 104 #[.slice XA xn xc, .int .i64 xs, v]) ∧ Below w.heap.size w V ∧ wo.heap.size < V.heap.size) ⟨⟨⟨(HX.out.2.2.1.1.set_bool (g := w.heap.size) (i := i) true hil).alloc _, HC.out⟩, _, Blk.at_ (wo.setCell _ _) _ _ (by simp)⟩, (hbl1.setCell (Nat.le_refl _) _).alloc (by simp; omega) _, by simp⟩ ?_
          rotate_left
          have HC := Lib.hid hC; clear hC
          go_upto_region 10 with fail
          refine wp_world (fun V => Hid (RmSt s w.heap.size N st (i + 1) i 0 V st1 m1 ∧ ∃ v, Blk V wo.heap.size 104 #[.slice XA xn xc, .int .i64 xs, v]) ∧ Below w.heap.size w V ∧ wo.heap.size < V.heap.size) ⟨⟨⟨HX.out.2.2.1.1.alloc _, HC.out⟩, _, Blk.new wo _ _⟩, hbl1.alloc (by omega) _, by simp⟩ ?_
          rotate_left
          have HC := Lib.hid hC; clear hC
          go_upto_region 10 with fail
          refine wp_world (fun V => Hid (RmSt s w.heap.size N st (i + 1) i 0 V st1 m1 ∧ ∃ v, Blk V wo.heap.size 104 #[.slice XA xn xc, .int .i64 xs, v]) ∧ Below w.heap.size w V ∧ wo.heap.size < V.heap.size) ⟨⟨⟨HX.out.2.2.1.1.alloc _, HC.out⟩, _, Blk.new wo _ _⟩, hbl1.alloc (by omega) _, by simp⟩ ?_
          rotate_left
          have HC := Lib.hid hC; clear hC
          go_upto_region 10 with fail
          refine wp_world (fun V => Hid (RmSt s w.heap.size N st (i + 1) i 0 V st1 m1 ∧ ∃ v, Blk V wo.heap.size 104 #[.slice XA xn xc, .int .i64 xs, v]) ∧ Below w.heap.size w V ∧ wo.heap.size < V.heap.size) ⟨⟨⟨HX.out.2.2.1.1.alloc _, HC.out⟩, _, Blk.new wo _ _⟩, hbl1.alloc (by omega) _, by simp⟩ ?_
          rotate_left
          all_goals
            clear HC s1 z1 e0 e1 e2
            rintro V ⟨hR, hbV, hsV⟩
            obtain ⟨v0, hX0⟩ := hR.out.2
            have x0 := hX0.cell 0 (v := .slice XA xn xc) rfl
            clear hX0
            go_wp2_with fail
            clear x0
            go_loopg [4, 49] xn (fun gj mv jv wj => ∃ (j : Nat) (st3 : List Bool) (m3 : Bool), j ≤ xn ∧ gj = xn - j ∧ mv = .bool m3 ∧ jv = .int .i64 j ∧ Hid (RmSt s w.heap.size N st (i + 1) i j wj st3 m3 ∧ ∃ v, Blk wj wo.heap.size 104 #[.slice XA xn xc, .int .i64 xs, v]) ∧ Below w.heap.size w wj ∧ wo.heap.size < wj.heap.size)
            case atStart => exact ⟨0, _, _, Nat.zero_le _, rfl, rfl, rfl, hR.out, hbV, hsV⟩
            case round =>
              obtain ⟨j, st3, m3, hj, rfl, rfl, rfl, hk3, hbl3, hsz3⟩ := hrel
              by_cases hlt3 : j < xn
              · have own3 := HX.out.2.2.2.1.block_ (w' := wr) (fun q hq => by
                  have := H.out.2.2.2 q (HX.out.2.2.2.2.1 q hq)
                  exact (hbl3.block q this).trans (hbl1.block q this).symm)
                obtain ⟨z, hz⟩ : ∃ z, xh[j]? = some z := ⟨_, List.getElem?_eq_getElem (by have := HX.out.2.2.2.2.2.2; omega)⟩
                obtain ⟨gx, rfl, _, _⟩ := own3.some_ (by have := HX.out.2.2.2.2.2.2; omega)
                have z0 := own3.cell_int hz
                obtain ⟨v3, hX3⟩ := hk3.out.2
                have x1 := hX3.cell 1 (v := .int .i64 xs) rfl
                obtain ⟨u3, hu3⟩ : ∃ u, st3[i]? = some u := ⟨_, List.getElem?_eq_getElem (by have := hk3.out.1.2.1.len; have := H.out.2.2.1; omega)⟩
                have s3 := hk3.out.1.1.cell_bool hu3
                have j0 : (0 : Int) ≤ (j : Int) := by omega
                have j1 : (j : Int) < (xn : Int) := by omega
                have hst0 : stAt s i = some xs := stAt_get HX.out.1
                have hsk : VClosed s st st3 i (j + 1) → RmSt s w.heap.size N st (i + 1) i (j + 1) wr st3 m3 ∧ ∃ v, Blk wr wo.heap.size 104 #[.slice (some ⟨gx, 0, none⟩) xn xc, .int .i64 xs, v] := fun hv => ⟨⟨hk3.out.1.1, hk3.out.1.2.1, hk3.out.1.2.2.1, hv⟩, hk3.out.2⟩
                have hvn := fun hs => hk3.out.1.2.2.2.next HX.out.1 hz hs
                have hrf := H.out.2.1.refs _ (List.mem_of_getElem? HX.out.1) z (List.mem_of_getElem? hz)
                have p3 := (H.out.1.fresh hbl3).top.1
                rw [H.out.2.2.1] at p3
                have hgo : ((xs == 1) = false ∧ u3 = false) ∨ ((xs == 1) = true ∨ (xs == 1) = false ∧ u3 = true) := by
                  by_cases h1 : xs = 1
                  · exact .inr (.inl (by simpa using h1))
                  · cases u3 with
                    | false => exact .inl ⟨by simpa using h1, rfl⟩
                    | true => exact .inr (.inr ⟨by simpa using h1, rfl⟩)
                rcases hgo with ⟨d6, rfl⟩ | hgo
                · have hv := hsk (hvn (fun hc => by
                    rcases hc with hc | hc
                    · rw [hst0] at hc; injection hc with hc; exact absurd hc (by simpa using d6)
                    · have := hk3.out.1.2.1.grows i hc; rw [hu3] at this; cases this))
                  have HV := Lib.hid hv; clear hv hsk hvn hrf hk3 hX3 hu3 hz own3 hst0
                  go_wp2_with fail
                  go_roundg (xn - (j + 1))
                  case measure => omega
                  case rel => exact ⟨j + 1, st3, m3, by omega, rfl, rfl, by go_num, HV.out, hbl3, hsz3⟩
                · rcases hrf with rfl | ⟨k, rfl, hkl, -⟩
                  · have hv := hsk (hvn (fun _ k e => by omega))
                    have HV := Lib.hid hv; clear hv hsk hvn hk3 hX3 hu3 hz own3 hst0
                    rcases hgo with d6 | ⟨d6, rfl⟩
                    all_goals
                      go_wp2_with fail
                      go_roundg (xn - (j + 1))
                      case measure => omega
                      case rel => exact ⟨j + 1, st3, m3, by omega, rfl, rfl, by go_num, HV.out, hbl3, hsz3⟩
                  · obtain ⟨y, hy⟩ : ∃ y, s[k]? = some y := ⟨_, List.getElem?_eq_getElem hkl⟩
                    obtain ⟨g', YA, yc, hgg, -, r1, -, -, -, -, -, -⟩ := (H.out.1.fresh hbl3).get hy
                    injection hgg with hgg; injection hgg with hgg; subst hgg
                    obtain ⟨vk, hvk⟩ : ∃ vk, y.st = vk := ⟨_, rfl⟩
                    have hsk0 : stAt s k = some vk := by rw [stAt_get hy, hvk]
                    rw [hvk] at r1
                    obtain ⟨uk, huk⟩ : ∃ u, st3[k]? = some u := ⟨_, List.getElem?_eq_getElem (by have := hk3.out.1.2.1.len; omega)⟩
                    have sk := hk3.out.1.1.cell_bool huk
                    have zk := hk3.out.1.1.frozen (g := w.heap.size) rfl k
                    have k0 : (0 : Int) ≤ (k : Int) := by omega
                    have k1 : (k : Int) < (N : Int) := by have := H.out.2.2.1; omega
                    have kne : ((k : Int) != -1) = true := by first | (simp; done) | (simp; omega)
                    by_cases hset : vk = 0 ∧ uk = false
                    · obtain ⟨rfl, rfl⟩ := hset
                      have hkl3 : k < st3.length := (List.getElem?_eq_some_iff.1 huk).1
                      have hgr := see_grows (s := st3) hkl3
                      have he : edge s i k := ⟨_, HX.out.1, List.mem_of_getElem? hz⟩
                      have hyg : Yg s k := by
                        rcases hgo with d6 | ⟨d6, rfl⟩
                        · exact .old (by rw [hst0, (by simpa using d6 : xs = 1)]) he hsk0
                        · exact .step (hk3.out.1.2.1.sound i hu3) he hsk0
                      have hpi := hk3.out.1.2.1.see huk hyg
                      have hv := (hk3.out.1.2.2.2.grow hgr).next HX.out.1 hz (fun _ q e h0 => by
                        obtain rfl : q = k := by omega
                        exact see_get hkl3)
                      have hne : wo.heap.size ≠ w.heap.size := by omega
                      have HV := Lib.hid (show RmSt s w.heap.size N st (i + 1) i (j + 1) (wr.setCell ⟨w.heap.size, k, none⟩ (.bool true)) (st3.set k true) true ∧ ∃ v, Blk (wr.setCell ⟨w.heap.size, k, none⟩ (.bool true)) wo.heap.size 104 #[.slice (some ⟨gx, 0, none⟩) xn xc, .int .i64 xs, v] from ⟨⟨hk3.out.1.1.set_bool (g := w.heap.size) (i := k) true hkl3, hpi, hk3.out.1.2.2.1.grow hgr, hv⟩, v3, hX3.far (p := ⟨w.heap.size, k, none⟩) hne _⟩)
                      clear hv hsk hvn hk3 hX3 hu3 hz own3 hst0 hpi hyg he hgr hkl3 hy hvk hsk0 huk
                      rcases hgo with d6 | ⟨d6, rfl⟩
                      all_goals
                        go_wp2_with fail
                        go_roundg (xn - (j + 1))
                        case measure => omega
                        case rel => exact ⟨j + 1, _, true, by omega, rfl, rfl, by go_num, HV.out, hbl3.setCell (Nat.le_refl _) _, by simpa using hsz3⟩
                    · have hv := hsk (hvn (fun _ q e h0 => by
                        obtain rfl : q = k := by omega
                        rw [hsk0] at h0; injection h0 with h0
                        rw [huk]
                        cases uk with
                        | true => rfl
                        | false => exact absurd ⟨h0, rfl⟩ hset))
                      have HV := Lib.hid hv
                      have hcs2 : (vk == 0) = false ∨ (vk == 0) = true ∧ uk = true := by
                        by_cases h1 : vk = 0
                        · cases uk with
                          | true => exact .inr ⟨by simpa using h1, rfl⟩
                          | false => exact absurd ⟨h1, rfl⟩ hset
                        · exact .inl (by simpa using h1)
                      clear hv hsk hvn hk3 hX3 hu3 hz own3 hst0 hy hvk hsk0 huk hset
                      rcases hgo with d6 | ⟨d6, rfl⟩
                      all_goals
                        rcases hcs2 with d7 | ⟨d7, rfl⟩
                        all_goals
                          go_wp2_with fail
                          go_roundg (xn - (j + 1))
                          case measure => omega
                          case rel => exact ⟨j + 1, st3, m3, by omega, rfl, rfl, by go_num, HV.out, hbl3, hsz3⟩
              · obtain rfl : xn = j := by omega
                have hR3 := hk3.out.1
                have hdn := hR3.2.2.2.done HX.out.1 (by show xh.length ≤ _; have := HX.out.2.2.2.2.2.2; omega)
                have HE := Lib.hid (show RmSt s w.heap.size N st (i + 1) (i + 1) 0 wr st3 m3 from ⟨hR3.1, hR3.2.1, hR3.2.2.1, hdn⟩); clear hR3 hdn hk3
                go_wp2_with fail
                go_roundg (N - (i + 1))
                case measure => omega
                case rel => exact ⟨i + 1, st3, m3, by omega, rfl, rfl, by go_num, HE.out, hbl3, by omega⟩
        · obtain rfl : N = i := by omega
          have hk2 := hk1.out
          have HE := Lib.hid hk2; clear hk2 hk1
          go_wp2_with fail
          go_roundg (if m1 = true then unseen st1 + 1 else 0)
          case measure =>
            have hl := HE.out.2.1.less
            rcases Bool.eq_false_or_eq_true m1 with e | e
            · rw [e, if_pos rfl] at hl
              rw [e, if_pos rfl]
              first | omega | (rw [if_pos rfl]; omega)
            · rw [e, if_neg (by simp)]
              first | omega | (rw [if_pos rfl]; omega)
          case rel =>
            obtain ⟨e1, e2, e3, e4⟩ := HE.out
            refine ⟨st1, m1, rfl, rfl, ⟨e1, e2.len, e2.sound, fun h => ?_⟩, hbl1, hsz1⟩
            subst h
            rw [← H.out.2.2.1] at e3 e4
            exact e2.fin e3 e4

end Go.Proofs.Ytpkccpegdpodoaa

/- R.Model: Marks, of a new thing; of another deed. -/
namespace Go.Proofs.Ytpkccpegdpodoaa
open Go.RowKit

attribute [local go_sem ↓] Go.wp_at_zero Go.wp_at_succ

/-- what a deed leaves -/
def MdPost (base p : Nat) (F : Nat → Prop) (nu kind : Int) (w : World) (r : Int × Int × Bool × List It) (e : Ending) (w' : World) : Prop :=
  e = .returned (.tuple #[.int .i64 r.1, .int .i64 r.2.1]) ∧ Mdl w' base (Up F w w') p nu kind r.2.2.1 r.2.2.2 ∧ Touch F w w'
theorem MdPost.of {base p : Nat} {F : Nat → Prop} {nu kind : Int} {w w' : World} {r : Int × Int × Bool × List It} {e : Ending} {m n : Int} {mk' : Bool} {s' : List It} (hr : r = (m, n, mk', s')) (he : e = .returned (.tuple #[.int .i64 m, .int .i64 n])) (hm : Mdl w' base (Up F w w') p nu kind mk' s') (hT : Touch F w w') : MdPost base p F nu kind w r e w' := by
  subst hr; exact ⟨he, hm, hT⟩
theorem MdPost.same {base p : Nat} {F : Nat → Prop} {nu kind : Int} {w w' : World} {r : Int × Int × Bool × List It} {e : Ending} {m n : Int} {mk' : Bool} {s' : List It} (hr : r = (m, n, mk', s')) (he : e = .returned (.tuple #[.int .i64 m, .int .i64 n])) (hm : Mdl w' base F p nu kind mk' s') (hT : Touch F w w') : MdPost base p F nu kind w r e w' :=
  MdPost.of hr he (hm.mono fun g hg => .inl hg) hT

/-- what is known ahead of a deed, its deed boxed -/
structure MdPre (w W : World) (base p : Nat) (F : Nat → Prop) (nu kind dd a b n : Int) (mk : Bool) (s : List It) : Prop where
  eq : W = w.alloc (.cells #[.int .i64 dd, .int .i64 a, .int .i64 b, .int .i64 n] 97)
  st : Mdl W base F p nu kind mk s
  inv : MInv kind mk s
  kd : kind = 1 ∨ kind = 2
  lt : ∀ g, F g → g < w.heap.size
  ia : I64 a
  ib : I64 b
  in_ : I64 n
  bel : Below w.heap.size w W
  siz : W.heap.size = w.heap.size + 1
  blk : Blk W w.heap.size 97 #[.int .i64 dd, .int .i64 a, .int .i64 b, .int .i64 n]
theorem MdPre.mk_ {w : World} {base p : Nat} {F : Nat → Prop} {nu kind dd a b n : Int} {mk : Bool} {s : List It} (h : Mdl w base F p nu kind mk s) (hi : MInv kind mk s) (hk : kind = 1 ∨ kind = 2) (hF : ∀ g, F g → g < w.heap.size) (hd : I64 a ∧ I64 b ∧ I64 n) :
    MdPre w (w.alloc (.cells #[.int .i64 dd, .int .i64 a, .int .i64 b, .int .i64 n] 97)) base p F nu kind dd a b n mk s :=
  ⟨rfl, h.fresh ((Below.refl _ _).alloc (Nat.le_refl _) _), hi, hk, hF, hd.1, hd.2.1, hd.2.2, (Below.refl _ _).alloc (Nat.le_refl _) _, by simp, Blk.new _ _ _⟩

set_option maxHeartbeats 1600000 in
set_option maxRecDepth 100000 in
theorem marks1 (w W : World) (base p : Nat) (F : Nat → Prop) (nu kind a b n : Int) (mk : Bool) (s : List It) (h : MdPre w W base p F nu kind 1 a b n mk s) :
    Calls Try.prog 53 #[.pointer (some ⟨p, 0, none⟩), .agg #[.int .i64 1, .int .i64 a, .int .i64 b, .int .i64 n]] w (MdPost base p F nu kind w (marksI kind mk s ⟨1, a, b, n⟩)) := by
  obtain ⟨P, hP⟩ : ∃ P, MdPost base p F nu kind w (marksI kind mk s ⟨1, a, b, n⟩) = P := ⟨_, rfl⟩
  have HP := Lib.hid hP
  rw [hP]; clear hP
  have hsz := h.siz
  have hr : marksI kind mk s ⟨1, a, b, n⟩ = if newE s n ≠ 0 then (0, newE s n, mk, s) else ((s.length : Int), 0, mk, s ++ [newI (if mk = true then 2 else 0) n]) := if_pos rfl
  have H := Lib.hid h; clear h
  have hp : p < W.heap.size := by obtain ⟨A, c, l, h1, -⟩ := H.out.st; exact h1.lt
  by_cases he : newE s n = 0
  · rw [if_neg (by simpa using he)] at hr
    obtain ⟨e1, e2, e3⟩ := newE_ok he
    obtain ⟨j, rfl⟩ := Int.eq_ofNat_of_zero_le e1
    have HR := Lib.hid (And.intro hr he); clear hr he
    go_enter Try.func53, Try.ntmps53
    go_wp2_with fail
    refine calls_world (fun V => W = V) H.out.eq ?_
    rintro V rfl
    refine (newFault_any W base p F nu kind 1 a b (j : Int) mk s H.out.st (by omega)).mono ?_
    rintro e w1 ⟨rfl, hb1⟩
    rw [HR.out.2]
    have hs1 := hb1.size
    have hM1 := H.out.st.fresh hb1
    have hD1 := H.out.blk.fresh hb1
    have hmk : w1.cell? ⟨p, 3, none⟩ = some (.bool mk) := by obtain ⟨A, c, l, h1, -⟩ := hM1; exact h1.cell 3 rfl
    have hn3 := hD1.cell 3 (v := .int .i64 (j : Int)) rfl
    have HM := Lib.hid (And.intro hM1 (H.out.bel.trans (hb1.mono (by omega)))); clear hM1 hD1 hb1
    rcases Bool.eq_false_or_eq_true mk with hm | hm
    all_goals
      rw [hm] at hmk
      have HMK := Lib.hid hm; clear hm
      go_wp2_with fail
      refine (more_any w1 base p F nu kind _ j mk s HM.out.1 (fun g hg => by have := H.out.lt g hg; omega) (by omega) (by omega) (by unfold I64; omega)).mono ?_
      rintro e w2 ⟨rfl, hm2, hT2⟩
      have HZ := Lib.hid (And.intro (hm2.mono (fun g hg => Up.from (by omega : w.heap.size ≤ w1.heap.size) hg)) ((Touch.ofBelow HM.out.2).trans hT2)); clear hm2 hT2
      go_wp2_with fail
      rw [← HP.out]
      refine MdPost.of HR.out.1 rfl ?_ HZ.out.2
      have h1 := HZ.out.1
      rw [HMK.out] at h1 ⊢
      exact h1
  · rw [if_pos (by simpa using he)] at hr
    have d1 : (newE s n != 0) = true := by simpa using he
    obtain ⟨er, her⟩ : ∃ e, newE s n = e := ⟨_, rfl⟩
    rw [her] at hr d1
    have HR := Lib.hid (And.intro hr her); clear hr he her
    go_enter Try.func53, Try.ntmps53
    go_wp2_with fail
    refine calls_world (fun V => W = V) H.out.eq ?_
    rintro V rfl
    refine (newFault_any W base p F nu kind 1 a b n mk s H.out.st (by have := H.out.inv.small; omega)).mono ?_
    rintro e w1 ⟨rfl, hb1⟩
    rw [HR.out.2]
    have hs1 := hb1.size
    have HZ := Lib.hid (And.intro (H.out.st.fresh hb1) (H.out.bel.trans (hb1.mono (by omega)))); clear hb1
    go_wp2_with fail
    rw [← HP.out]
    exact MdPost.same HR.out.1 rfl HZ.out.1 (Touch.ofBelow HZ.out.2)

set_option maxHeartbeats 800000 in
set_option maxRecDepth 100000 in
theorem marksX (w W : World) (base p : Nat) (F : Nat → Prop) (nu kind dd a b n : Int) (mk : Bool) (s : List It) (h : MdPre w W base p F nu kind dd a b n mk s) (h1 : dd ≠ 1) (h2 : dd ≠ 2) (h4 : dd ≠ 4) (h3 : dd ≠ 3) (h6 : dd ≠ 6) (h5 : dd ≠ 5) (h7 : dd ≠ 7) :
    Calls Try.prog 53 #[.pointer (some ⟨p, 0, none⟩), .agg #[.int .i64 dd, .int .i64 a, .int .i64 b, .int .i64 n]] w (MdPost base p F nu kind w (marksI kind mk s ⟨dd, a, b, n⟩)) := by
  obtain ⟨P, hP⟩ : ∃ P, MdPost base p F nu kind w (marksI kind mk s ⟨dd, a, b, n⟩) = P := ⟨_, rfl⟩
  have HP := Lib.hid hP
  rw [hP]; clear hP
  have hr : marksI kind mk s ⟨dd, a, b, n⟩ = (0, 7, mk, s) := by
    unfold marksI
    rw [if_neg h1, if_neg h2, if_neg (by rintro (h | h) <;> first | exact h4 h | exact h3 h), if_neg h6, if_neg h5, if_neg h7]
  have d1 : (dd == 1) = false := by simpa using h1
  have d2 : (dd == 2) = false := by simpa using h2
  have d4 : (dd == 4) = false := by simpa using h4
  have d3 : (dd == 3) = false := by simpa using h3
  have d6 : (dd == 6) = false := by simpa using h6
  have d5 : (dd == 5) = false := by simpa using h5
  have d7 : (dd == 7) = false := by simpa using h7
  have H := Lib.hid (And.intro h hr); clear h hr h1 h2 h4 h3 h6 h5 h7
  go_enter Try.func53, Try.ntmps53
  go_wp2_with fail
  rw [← HP.out, ← H.out.1.eq]
  exact MdPost.same H.out.2 rfl H.out.1.st (Touch.ofBelow H.out.1.bel)

end Go.Proofs.Ytpkccpegdpodoaa

/- R.Model: Marks, of a setting. -/
namespace Go.Proofs.Ytpkccpegdpodoaa
open Go.RowKit

attribute [local go_sem ↓] Go.wp_at_zero Go.wp_at_succ

theorem rset_fin {w : World} {base p t j gx g c xc : Nat} {F : Nat → Prop} {nu kind dd b sn xs : Int} {mk xb : Bool} {s : List It} {l l5 : List ItR} {xh : List Int}
    (h : MdlL w base F p nu kind mk (some ⟨g, 0, none⟩) c (shadeI mk sn s) l5) (hsa : SameA l l5) (hx : l[t]? = some ⟨some ⟨gx, 0, none⟩, xc, xh, xs, xb⟩) (hl : its l = s) (hj : j < xh.length) (hb : I64 b) (hsn : (if kind = 1 then b else (hasAt s (t : Int)).getD j 0) = sn) :
    Mdl (w.setCell ⟨gx, j, none⟩ (.int .i64 b)) base F p nu kind mk (setI kind mk ⟨dd, (t : Int), b, (j : Int)⟩ s) ∧ F gx ∧ (∃ v, w.cell? ⟨gx, j, none⟩ = some (.int .i64 v)) ∧ w.frozen? ⟨gx, j, none⟩ = false ∧
      w.cell? ⟨p, 0, none⟩ = some (.slice (some ⟨g, 0, none⟩) s.length c) ∧ w.cell? ⟨g, t * 3, none⟩ = some (.slice (some ⟨gx, 0, none⟩) xh.length xc) := by
  obtain ⟨h1, h2, h3, h4, h5⟩ := h
  obtain ⟨x5, hx5, hA, hc⟩ := hsa t _ hx
  simp only at hA hc
  have hsx : s[t]? = some ⟨xh, xs, xb⟩ := by rw [← hl]; exact its_get hx
  have hhas : x5.has = xh := by
    obtain ⟨y, hy, hy2, -⟩ := shadeI_same mk sn hsx
    rw [← h5, its_get hx5] at hy
    injection hy with hy
    rw [← hy] at hy2
    exact hy2
  have hsub := h2.sub t x5 hx5
  have hown := hsub.1
  rw [hA, hc, hhas] at hown
  have hset := h2.setHas hx5 (by decide) hA (j := j) (by rw [hhas]; exact hj) b hb
  have hits := its_set l5 t x5 { x5 with has := x5.has.set j b } (It.sethas j b) hx5 rfl
  rw [h5] at hits
  have hne : p ≠ gx := fun e => own_ne_ty hown h1 (by decide) (by rw [← e]; rfl)
  obtain ⟨g', hgg, -, -, q0, -, -⟩ := h2.cells hx5
  injection hgg with hgg; injection hgg with hgg; subst hgg
  rw [hA, hhas, hc] at q0
  have hll : l5.length = s.length := by rw [← its_length, h5, shadeI_length]
  refine ⟨⟨_, c, _, by rw [List.length_set]; exact h1.far (p := ⟨gx, j, none⟩) hne _, hset, h3, h4, ?_⟩, hsub.2.1 gx (by rw [hA]; rfl), ⟨xh[j], hown.cell_int (List.getElem?_eq_getElem hj)⟩, hown.frozen rfl j, by rw [← hll]; exact h1.cell 0 rfl, q0⟩
  rw [hits]
  unfold setI
  simp only [Int.toNat_natCast]
  rw [hsn]
theorem MdlL.drew_ {w : World} {base p c : Nat} {F : Nat → Prop} {nu kind : Int} {mk : Bool} {A : Option Addr} {s : List It} {l : List ItR} (h : MdlL w base F p nu kind mk A c s l) : MdlL w.drew base F p nu kind mk A c s l := ⟨h.1.drew, h.2.1.drew, h.2.2⟩
theorem marksI_set (kind : Int) (mk : Bool) (s : List It) (a b n : Int) : marksI kind mk s ⟨2, a, b, n⟩ = (0, setE s ⟨2, a, b, n⟩, mk, if setE s ⟨2, a, b, n⟩ = 0 then setI kind mk ⟨2, a, b, n⟩ s else s) := by
  unfold marksI
  rw [if_neg (show ¬ (2 : Int) = 1 by decide), if_pos rfl]
  split
  · rename_i hq; first | rfl | rw [if_neg hq]
  · rename_i hq; have hq' : setE s ⟨2, a, b, n⟩ = 0 := by simpa using hq
    rw [hq', if_pos rfl]
theorem setE_zero {s : List It} {d : Dd} (h : setE s d = 0) : namedE s (setL d) = 0 ∧ 0 ≤ d.n ∧ d.n < ((hasAt s d.a).length : Int) := by
  unfold setE at h
  split at h
  · rename_i h1; exact absurd h h1
  · rename_i h1
    split at h
    · cases h
    · exact ⟨by simpa using h1, by omega, by omega⟩

set_option maxHeartbeats 3200000 in
set_option maxRecDepth 100000 in
theorem marks2 (w W : World) (base p : Nat) (F : Nat → Prop) (nu kind a b n : Int) (mk : Bool) (s : List It) (h : MdPre w W base p F nu kind 2 a b n mk s) :
    Calls Try.prog 53 #[.pointer (some ⟨p, 0, none⟩), .agg #[.int .i64 2, .int .i64 a, .int .i64 b, .int .i64 n]] w (MdPost base p F nu kind w (marksI kind mk s ⟨2, a, b, n⟩)) := by
  obtain ⟨P, hP⟩ : ∃ P, MdPost base p F nu kind w (marksI kind mk s ⟨2, a, b, n⟩) = P := ⟨_, rfl⟩
  have HP := Lib.hid hP
  rw [hP]; clear hP
  have hsz := h.siz
  have hr := marksI_set kind mk s a b n
  have H := Lib.hid h; clear h
  by_cases he : setE s ⟨2, a, b, n⟩ = 0
  · rw [he, if_pos rfl] at hr
    obtain ⟨z1, z2, z3⟩ := setE_zero he
    simp only at z2 z3
    obtain ⟨t, rfl, htl, -⟩ := namedE_zero z1 a (by unfold setL; split <;> simp)
    obtain ⟨j, rfl⟩ := Int.eq_ofNat_of_zero_le z2
    have hbv : b = -1 ∨ ∃ m : Nat, b = (m : Int) ∧ m < s.length := by
      by_cases hb1 : b = -1
      · exact .inl hb1
      · obtain ⟨m, e, e2, -⟩ := namedE_zero z1 b (by unfold setL; rw [if_neg hb1]; simp)
        exact .inr ⟨m, e, e2⟩
    have HR := Lib.hid (And.intro hr (And.intro he (And.intro hbv (And.intro z3 htl)))); clear hr he hbv z1 z2 z3 htl
    go_enter Try.func53, Try.ntmps53
    go_wp2_with fail
    refine calls_world (fun V => W = V) H.out.eq ?_
    rintro V rfl
    refine (setFault_any W base p F nu kind 2 (t : Int) b (j : Int) mk s H.out.st H.out.inv.fine ⟨H.out.ia, H.out.ib, H.out.in_⟩).mono ?_
    rintro e w1 ⟨rfl, hb1⟩
    rw [HR.out.2.1]
    have hs1 := hb1.size
    obtain ⟨A, c, l, m1, m2, m3, m4, m5⟩ := H.out.st.fresh hb1
    have hD1 := H.out.blk.fresh hb1
    have hll : l.length = s.length := by rw [← m5, its_length]
    obtain ⟨L, hL⟩ : ∃ L, s.length = L := ⟨_, rfl⟩
    obtain ⟨x, hx⟩ : ∃ x, l[t]? = some x := ⟨_, List.getElem?_eq_getElem (by have := HR.out.2.2.2.2; omega)⟩
    obtain ⟨g, rfl, hg1, hg2, q0, q1, q2⟩ := m2.cells hx
    have hsx : s[t]? = some x.it := by rw [← m5]; exact its_get hx
    obtain ⟨XA, xc, xh, xs, xb⟩ := x
    simp only at q0 q1 q2
    have hat : hasAt s (t : Int) = xh := by unfold hasAt; rw [Int.toNat_natCast, hsx]; rfl
    have hjx : j < xh.length := by have := HR.out.2.2.2.1; rw [hat] at this; omega
    obtain ⟨gx, rfl, hgx1, hgx2⟩ := (m2.sub t _ hx).1.some_ (by simp only; omega)
    have holdc := (m2.sub t _ hx).1.cell_int (i := j) (List.getElem?_eq_getElem hjx)
    have holdr := H.out.inv.refs _ (List.mem_of_getElem? hsx) (xh[j]) (List.getElem_mem hjx)
    obtain ⟨old, hold⟩ : ∃ o, xh[j] = o := ⟨_, rfl⟩
    simp only [hold] at holdc
    rw [hold] at holdr
    have hgd : (hasAt s (t : Int)).getD j 0 = old := by rw [hat, List.getD_eq_getElem?_getD, List.getElem?_eq_getElem hjx, hold]; rfl
    have hfin := fun (W5 : World) (l5 : List ItR) (sn : Int) (h : MdlL W5 base F p nu kind mk (some ⟨g, 0, none⟩) c (shadeI mk sn s) l5) (hsa : SameA l l5) (hsn : (if kind = 1 then b else (hasAt s (t : Int)).getD j 0) = sn) => rset_fin (dd := 2) h hsa hx m5 hjx H.out.ib hsn
    obtain ⟨xn, hxn⟩ : ∃ n, xh.length = n := ⟨_, rfl⟩
    rw [hxn] at q0 hjx
    simp only [hxn, hL] at hfin
    have p0 := m1.cell 0 (v := .slice (some ⟨g, 0, none⟩) l.length c) rfl
    have p2 := m1.cell 2 (v := .int .i64 kind) rfl
    rw [hll, hL] at p0
    have e1 := hD1.cell 1 (v := .int .i64 (t : Int)) rfl
    have e2 := hD1.cell 2 (v := .int .i64 b) rfl
    have e3 := hD1.cell 3 (v := .int .i64 (j : Int)) rfl
    have hMl : MdlL w1 base F p nu kind mk (some ⟨g, 0, none⟩) c s l := ⟨m1, m2, m3, m4, m5⟩
    have t0 : (0 : Int) ≤ (t : Int) := by omega
    have t1 : (t : Int) < (L : Int) := by have := HR.out.2.2.2.2; omega
    have j0 : (0 : Int) ≤ (j : Int) := by omega
    have j1 : (j : Int) < (xn : Int) := by omega
    have hDlt := hD1.lt
    have hplt := m1.lt
    have hnD : ¬ F w.heap.size := fun e => by have := H.out.lt _ e; omega
    have hT1 : Touch F w w1 := Touch.ofBelow (H.out.bel.trans (hb1.mono (by omega)))
    have HX := Lib.hid (And.intro hMl (And.intro holdr (And.intro hgd (And.intro hfin (And.intro hD1 (And.intro hT1 m3)))))); clear hMl holdr hgd hfin hD1 hT1 m1 m2 m3 m4 m5 hll hx hsx hat hold hxn hb1 hL
    have hs1000 : s.length ≤ 1000 := by have := H.out.inv.small; omega
    rcases H.out.kd with hk1 | hk2
    · subst hk1
      go_wp2_with fail
      refine (rshadeL_any w1 base p F nu 1 b mk _ c s l HX.out.1 HR.out.2.2.1 hs1000).mono ?_
      rintro e w5 ⟨rfl, ⟨l5, m5a, m5b⟩, m5c, m5d, m5e⟩
      obtain ⟨f1, f2, ⟨ov, f3⟩, f4, f5, f6⟩ := HX.out.2.2.2.1 w5 l5 b m5a m5b (by simp)
      have hd5 := HX.out.2.2.2.2.1.touch m5c hnD
      clear e1 e2 e3 p0 p2 q0 q1 q2 holdc
      have e1 := hd5.cell 1 (v := .int .i64 (t : Int)) rfl
      have e2 := hd5.cell 2 (v := .int .i64 b) rfl
      have e3 := hd5.cell 3 (v := .int .i64 (j : Int)) rfl
      have HQ := Lib.hid (And.intro f1 ((HX.out.2.2.2.2.2.1.trans m5c).setCell (p := ⟨gx, j, none⟩) f2 (.int .i64 b))); clear f1 f2 m5a m5b m5c m5d m5e hd5
      go_wp2_with fail
      go_still_tail 14, (by kernel_rfl)
      change wpList _ _ _ _ _ (World.drew _)
      go_wp2_with fail
      rw [← HP.out]
      exact MdPost.same HR.out.1 rfl (HQ.out.1.drewN 1) (HQ.out.2.drewN 1)
    · subst hk2
      go_wp2_with fail
      go_still_tail 14, (by kernel_rfl)
      change wpList _ _ _ _ _ (World.drew _)
      go_wp2_with fail
      refine (rshadeL_any w1.drew base p F nu 2 old mk _ c s l HX.out.1.drew_ (HX.out.2.1.imp id (fun ⟨m, e, e2, _⟩ => ⟨m, e, e2⟩)) hs1000).mono ?_
      rintro e w5 ⟨rfl, ⟨l5, m5a, m5b⟩, m5c, m5d, m5e⟩
      obtain ⟨f1, f2, ⟨ov, f3⟩, f4, f5, f6⟩ := HX.out.2.2.2.1 w5 l5 old m5a m5b (by simp; exact HX.out.2.2.1)
      have hd5 := HX.out.2.2.2.2.1.touch ((Touch.refl F w1).drew.trans m5c) hnD
      clear e1 e2 e3 p0 p2 q0 q1 q2 holdc
      have e1 := hd5.cell 1 (v := .int .i64 (t : Int)) rfl
      have e2 := hd5.cell 2 (v := .int .i64 b) rfl
      have e3 := hd5.cell 3 (v := .int .i64 (j : Int)) rfl
      have HQ := Lib.hid (And.intro f1 ((HX.out.2.2.2.2.2.1.trans ((Touch.refl F w1).drew.trans m5c)).setCell (p := ⟨gx, j, none⟩) f2 (.int .i64 b))); clear f1 f2 m5a m5b m5c m5d m5e hd5
      go_wp2_with fail
      go_still_tail 14, (by kernel_rfl)
      change wpList _ _ _ _ _ (World.drew _)
      go_wp2_with fail
      rw [← HP.out]
      exact MdPost.same HR.out.1 rfl (HQ.out.1.drewN 1) (HQ.out.2.drewN 1)
  · rw [if_neg he] at hr
    have d1 : (setE s ⟨2, a, b, n⟩ == 0) = false := by simpa using he
    obtain ⟨er, her⟩ : ∃ e, setE s ⟨2, a, b, n⟩ = e := ⟨_, rfl⟩
    rw [her] at hr d1
    have HR := Lib.hid (And.intro hr her); clear hr he her
    go_enter Try.func53, Try.ntmps53
    go_wp2_with fail
    refine calls_world (fun V => W = V) H.out.eq ?_
    rintro V rfl
    refine (setFault_any W base p F nu kind 2 a b n mk s H.out.st H.out.inv.fine ⟨H.out.ia, H.out.ib, H.out.in_⟩).mono ?_
    rintro e w1 ⟨rfl, hb1⟩
    rw [HR.out.2]
    have hs1 := hb1.size
    have HZ := Lib.hid (And.intro (H.out.st.fresh hb1) (H.out.bel.trans (hb1.mono (by omega)))); clear hb1
    go_wp2_with fail
    rw [← HP.out]
    exact MdPost.same HR.out.1 rfl HZ.out.1 (Touch.ofBelow HZ.out.2)

end Go.Proofs.Ytpkccpegdpodoaa

/- R.Model: Marks, of a holding. -/
namespace Go.Proofs.Ytpkccpegdpodoaa
open Go.RowKit

attribute [local go_sem ↓] Go.wp_at_zero Go.wp_at_succ

theorem rhold_fin {w : World} {base p t g c : Nat} {F : Nat → Prop} {nu kind : Int} {mk b : Bool} {s : List It} {l : List ItR} (h : MdlL w base F p nu kind mk (some ⟨g, 0, none⟩) c s l) (ht : t < s.length) :
    Mdl (w.setCell ⟨g, t * 3 + 2, none⟩ (.bool b)) base F p nu kind mk (s.modify t (It.sethl b)) ∧ F g ∧ (∃ v, w.cell? ⟨g, t * 3 + 2, none⟩ = some (.bool v)) ∧ w.frozen? ⟨g, t * 3 + 2, none⟩ = false ∧ w.cell? ⟨p, 0, none⟩ = some (.slice (some ⟨g, 0, none⟩) s.length c) := by
  obtain ⟨h1, h2, h3, h4, h5⟩ := h
  have hl : l.length = s.length := by rw [← h5, its_length]
  obtain ⟨x, hx⟩ : ∃ x, l[t]? = some x := ⟨_, List.getElem?_eq_getElem (by omega)⟩
  obtain ⟨g', hgg, -, -, -, -, q2⟩ := h2.cells hx
  injection hgg with hgg; injection hgg with hgg; subst hgg
  have hset := h2.setHeld hx (by decide) b
  have hits := its_set l t x { x with held := b } (It.sethl b) hx rfl
  rw [h5] at hits
  have hne : p ≠ g := fun e => own_ne_ty h2.row h1 (by decide) (by rw [← e]; rfl)
  exact ⟨⟨_, c, _, by rw [List.length_set]; exact h1.far (p := ⟨g, t * 3 + 2, none⟩) hne _, hset, h3, h4, hits⟩, h2.foot g rfl, ⟨_, q2⟩, h2.row.frozen rfl _, by rw [← hl]; exact h1.cell 0 rfl⟩
theorem marksI_hold (kind : Int) (mk : Bool) (s : List It) (dd a b n : Int) (hd : dd = 4 ∨ dd = 3) : marksI kind mk s ⟨dd, a, b, n⟩ = (0, holdE s ⟨dd, a, b, n⟩, mk, if holdE s ⟨dd, a, b, n⟩ = 0 then holdI kind mk ⟨dd, a, b, n⟩ s else s) := by
  unfold marksI
  rw [if_neg (show ¬ dd = 1 by omega), if_neg (show ¬ dd = 2 by omega), if_pos hd]
  split
  · rename_i hq; first | rfl | rw [if_neg hq]
  · rename_i hq; have hq' : holdE s ⟨dd, a, b, n⟩ = 0 := by simpa using hq
    rw [hq', if_pos rfl]
theorem holdE_zero {s : List It} {d : Dd} (h : holdE s d = 0) : namedE s [d.a] = 0 := by
  unfold holdE at h
  split at h
  · rename_i h1; exact absurd h h1
  · rename_i h1; simpa using h1
theorem Mdl.drew_ {w : World} {base p : Nat} {F : Nat → Prop} {nu kind : Int} {mk : Bool} {s : List It} (h : Mdl w base F p nu kind mk s) : Mdl w.drew base F p nu kind mk s := h.drewN 1

set_option maxHeartbeats 3200000 in
set_option maxRecDepth 100000 in
theorem marks4 (w W : World) (base p : Nat) (F : Nat → Prop) (nu kind a b n : Int) (mk : Bool) (s : List It) (h : MdPre w W base p F nu kind 4 a b n mk s) :
    Calls Try.prog 53 #[.pointer (some ⟨p, 0, none⟩), .agg #[.int .i64 4, .int .i64 a, .int .i64 b, .int .i64 n]] w (MdPost base p F nu kind w (marksI kind mk s ⟨4, a, b, n⟩)) := by
  obtain ⟨P, hP⟩ : ∃ P, MdPost base p F nu kind w (marksI kind mk s ⟨4, a, b, n⟩) = P := ⟨_, rfl⟩
  have HP := Lib.hid hP
  rw [hP]; clear hP
  have hsz := h.siz
  have hr := marksI_hold kind mk s 4 a b n (by decide)
  have H := Lib.hid h; clear h
  by_cases he : holdE s ⟨4, a, b, n⟩ = 0
  · rw [he, if_pos rfl] at hr
    obtain ⟨t, rfl, htl, -⟩ := namedE_zero (holdE_zero he) a (by simp)
    have HR := Lib.hid (And.intro hr (And.intro he htl)); clear hr he htl
    go_enter Try.func53, Try.ntmps53
    go_wp2_with fail
    refine calls_world (fun V => W = V) H.out.eq ?_
    rintro V rfl
    refine (holdFault_any W base p F nu kind 4 (t : Int) b n mk s H.out.st H.out.inv.fine H.out.ia).mono ?_
    rintro e w1 ⟨rfl, hb1⟩
    rw [HR.out.2.1]
    have hs1 := hb1.size
    obtain ⟨A, c, l, m1, m2, m3, m4, m5⟩ := H.out.st.fresh hb1
    have hD1 := H.out.blk.fresh hb1
    have hll : l.length = s.length := by rw [← m5, its_length]
    obtain ⟨L, hL⟩ : ∃ L, s.length = L := ⟨_, rfl⟩
    obtain ⟨x, hx⟩ : ∃ x, l[t]? = some x := ⟨_, List.getElem?_eq_getElem (by have := HR.out.2.2; omega)⟩
    obtain ⟨g, rfl, hg1, hg2, q0, q1, q2⟩ := m2.cells hx
    have p0 := m1.cell 0 (v := .slice (some ⟨g, 0, none⟩) l.length c) rfl
    have p2 := m1.cell 2 (v := .int .i64 kind) rfl
    rw [hll, hL] at p0
    have e0 := hD1.cell 0 (v := .int .i64 4) rfl
    have e1 := hD1.cell 1 (v := .int .i64 (t : Int)) rfl
    have hMl : MdlL w1 base F p nu kind mk (some ⟨g, 0, none⟩) c s l := ⟨m1, m2, m3, m4, m5⟩
    have t0 : (0 : Int) ≤ (t : Int) := by omega
    have t1 : (t : Int) < (L : Int) := by have := HR.out.2.2; omega
    have hnD : ¬ F w.heap.size := fun e => by have := H.out.lt _ e; omega
    have hT1 : Touch F w w1 := Touch.ofBelow (H.out.bel.trans (hb1.mono (by omega)))
    have HX := Lib.hid (And.intro hMl (And.intro hD1 (And.intro hT1 hL))); clear hMl hD1 hT1 m1 m2 m3 m4 m5 hll hx hb1 hL q0 q1 q2
    have hs1000 : s.length ≤ 1000 := by have := H.out.inv.small; omega
    rcases H.out.kd with hk1 | hk2
    · subst hk1
      go_wp2_with fail
      go_quiet (fail)
      go_wp2_with fail
      refine calls_world (fun V => Hid (MdlL V base F p nu 1 mk (some ⟨g, 0, none⟩) c s l ∧ Blk V w.heap.size 97 #[.int .i64 4, .int .i64 (t : Int), .int .i64 b, .int .i64 n] ∧ Touch F w V)) ⟨⟨HX.out.1.1.drewN _, HX.out.1.2.1.drewN _, HX.out.1.2.2⟩, HX.out.2.1.drewN _, HX.out.2.2.1.drewN _⟩ ?_
      rintro V hV
      clear p0 p2 e0 e1
      refine (rshadeL_any V base p F nu 1 (t : Int) mk _ c s l hV.out.1 (.inr ⟨t, rfl, HR.out.2.2⟩) hs1000).mono ?_
      rintro e w5 ⟨rfl, ⟨l5, m5a, m5b⟩, m5c, m5d, m5e⟩
      obtain ⟨f1, f2, ⟨ov, f3⟩, f4, f5⟩ := rhold_fin (t := t) (b := true) m5a (by rw [shadeI_length]; exact HR.out.2.2)
      rw [shadeI_length, HX.out.2.2.2] at f5
      have hd5 := hV.out.2.1.touch m5c hnD
      have e0 := hd5.cell 0 (v := .int .i64 4) rfl
      have e1 := hd5.cell 1 (v := .int .i64 (t : Int)) rfl
      have HQ := Lib.hid (And.intro f1 ((hV.out.2.2.trans m5c).setCell (p := ⟨g, t * 3 + 2, none⟩) f2 (.bool true))); clear f1 f2 m5a m5b m5c m5d m5e hd5
      go_wp2_with fail
      go_still_tail 11, (by kernel_rfl)
      change wpList _ _ _ _ _ (World.drew _)
      go_wp2_with fail
      rw [← HP.out]
      exact MdPost.same (HR.out.1.trans (by unfold holdI; simp)) rfl HQ.out.1.drew_ HQ.out.2.drew
    · subst hk2
      go_wp2_with fail
      go_quiet (fail)
      go_wp2_with fail
      refine wp_world (fun V => Hid (MdlL V base F p nu 2 mk (some ⟨g, 0, none⟩) c s l ∧ Blk V w.heap.size 97 #[.int .i64 4, .int .i64 (t : Int), .int .i64 b, .int .i64 n] ∧ Touch F w V)) ⟨⟨HX.out.1.1.drewN _, HX.out.1.2.1.drewN _, HX.out.1.2.2⟩, HX.out.2.1.drewN _, HX.out.2.2.1.drewN _⟩ ?_
      rintro V hV
      clear p0 p2 e0 e1
      have e0 := hV.out.2.1.cell 0 (v := .int .i64 4) rfl
      have e1 := hV.out.2.1.cell 1 (v := .int .i64 (t : Int)) rfl
      obtain ⟨f1, f2, ⟨ov, f3⟩, f4, f5⟩ := rhold_fin (t := t) (b := true) hV.out.1 HR.out.2.2
      rw [HX.out.2.2.2] at f5
      have HQ := Lib.hid (And.intro f1 (hV.out.2.2.setCell (p := ⟨g, t * 3 + 2, none⟩) f2 (.bool true))); clear f1 f2
      go_still_tail 11, (by kernel_rfl)
      change wpList _ _ _ _ _ (World.drew _)
      go_wp2_with fail
      rw [← HP.out]
      exact MdPost.same (HR.out.1.trans (by unfold holdI; simp)) rfl HQ.out.1.drew_ HQ.out.2.drew
  · rw [if_neg he] at hr
    have d1 : (holdE s ⟨4, a, b, n⟩ == 0) = false := by simpa using he
    obtain ⟨er, her⟩ : ∃ e, holdE s ⟨4, a, b, n⟩ = e := ⟨_, rfl⟩
    rw [her] at hr d1
    have HR := Lib.hid (And.intro hr her); clear hr he her
    go_enter Try.func53, Try.ntmps53
    go_wp2_with fail
    refine calls_world (fun V => W = V) H.out.eq ?_
    rintro V rfl
    refine (holdFault_any W base p F nu kind 4 a b n mk s H.out.st H.out.inv.fine H.out.ia).mono ?_
    rintro e w1 ⟨rfl, hb1⟩
    rw [HR.out.2]
    have hs1 := hb1.size
    have HZ := Lib.hid (And.intro (H.out.st.fresh hb1) (H.out.bel.trans (hb1.mono (by omega)))); clear hb1
    go_wp2_with fail
    rw [← HP.out]
    exact MdPost.same HR.out.1 rfl HZ.out.1 (Touch.ofBelow HZ.out.2)

set_option maxHeartbeats 3200000 in
set_option maxRecDepth 100000 in
theorem marks3 (w W : World) (base p : Nat) (F : Nat → Prop) (nu kind a b n : Int) (mk : Bool) (s : List It) (h : MdPre w W base p F nu kind 3 a b n mk s) :
    Calls Try.prog 53 #[.pointer (some ⟨p, 0, none⟩), .agg #[.int .i64 3, .int .i64 a, .int .i64 b, .int .i64 n]] w (MdPost base p F nu kind w (marksI kind mk s ⟨3, a, b, n⟩)) := by
  obtain ⟨P, hP⟩ : ∃ P, MdPost base p F nu kind w (marksI kind mk s ⟨3, a, b, n⟩) = P := ⟨_, rfl⟩
  have HP := Lib.hid hP
  rw [hP]; clear hP
  have hsz := h.siz
  have hr := marksI_hold kind mk s 3 a b n (by decide)
  have H := Lib.hid h; clear h
  by_cases he : holdE s ⟨3, a, b, n⟩ = 0
  · rw [he, if_pos rfl] at hr
    obtain ⟨t, rfl, htl, -⟩ := namedE_zero (holdE_zero he) a (by simp)
    have HR := Lib.hid (And.intro hr (And.intro he htl)); clear hr he htl
    go_enter Try.func53, Try.ntmps53
    go_wp2_with fail
    refine calls_world (fun V => W = V) H.out.eq ?_
    rintro V rfl
    refine (holdFault_any W base p F nu kind 3 (t : Int) b n mk s H.out.st H.out.inv.fine H.out.ia).mono ?_
    rintro e w1 ⟨rfl, hb1⟩
    rw [HR.out.2.1]
    have hs1 := hb1.size
    obtain ⟨A, c, l, m1, m2, m3, m4, m5⟩ := H.out.st.fresh hb1
    have hD1 := H.out.blk.fresh hb1
    have hll : l.length = s.length := by rw [← m5, its_length]
    obtain ⟨L, hL⟩ : ∃ L, s.length = L := ⟨_, rfl⟩
    obtain ⟨x, hx⟩ : ∃ x, l[t]? = some x := ⟨_, List.getElem?_eq_getElem (by have := HR.out.2.2; omega)⟩
    obtain ⟨g, rfl, hg1, hg2, q0, q1, q2⟩ := m2.cells hx
    have p0 := m1.cell 0 (v := .slice (some ⟨g, 0, none⟩) l.length c) rfl
    have p2 := m1.cell 2 (v := .int .i64 kind) rfl
    rw [hll, hL] at p0
    have e0 := hD1.cell 0 (v := .int .i64 3) rfl
    have e1 := hD1.cell 1 (v := .int .i64 (t : Int)) rfl
    have hMl : MdlL w1 base F p nu kind mk (some ⟨g, 0, none⟩) c s l := ⟨m1, m2, m3, m4, m5⟩
    have t0 : (0 : Int) ≤ (t : Int) := by omega
    have t1 : (t : Int) < (L : Int) := by have := HR.out.2.2; omega
    have hnD : ¬ F w.heap.size := fun e => by have := H.out.lt _ e; omega
    have hT1 : Touch F w w1 := Touch.ofBelow (H.out.bel.trans (hb1.mono (by omega)))
    have HX := Lib.hid (And.intro hMl (And.intro hD1 (And.intro hT1 hL))); clear hMl hD1 hT1 m1 m2 m3 m4 m5 hll hx hb1 hL q0 q1 q2
    have hs1000 : s.length ≤ 1000 := by have := H.out.inv.small; omega
    rcases H.out.kd with hk1 | hk2
    · subst hk1
      go_wp2_with fail
      go_quiet (fail)
      go_wp2_with fail
      refine wp_world (fun V => Hid (MdlL V base F p nu 1 mk (some ⟨g, 0, none⟩) c s l ∧ Blk V w.heap.size 97 #[.int .i64 3, .int .i64 (t : Int), .int .i64 b, .int .i64 n] ∧ Touch F w V)) ⟨⟨HX.out.1.1.drewN _, HX.out.1.2.1.drewN _, HX.out.1.2.2⟩, HX.out.2.1.drewN _, HX.out.2.2.1.drewN _⟩ ?_
      rintro V hV
      clear p0 p2 e0 e1
      have e0 := hV.out.2.1.cell 0 (v := .int .i64 3) rfl
      have e1 := hV.out.2.1.cell 1 (v := .int .i64 (t : Int)) rfl
      obtain ⟨f1, f2, ⟨ov, f3⟩, f4, f5⟩ := rhold_fin (t := t) (b := false) hV.out.1 HR.out.2.2
      rw [HX.out.2.2.2] at f5
      have HQ := Lib.hid (And.intro f1 (hV.out.2.2.setCell (p := ⟨g, t * 3 + 2, none⟩) f2 (.bool false))); clear f1 f2
      go_still_tail 11, (by kernel_rfl)
      change wpList _ _ _ _ _ (World.drew _)
      go_wp2_with fail
      rw [← HP.out]
      exact MdPost.same (HR.out.1.trans (by unfold holdI; simp)) rfl HQ.out.1.drew_ HQ.out.2.drew
    · subst hk2
      go_wp2_with fail
      go_quiet (fail)
      go_wp2_with fail
      refine calls_world (fun V => Hid (MdlL V base F p nu 2 mk (some ⟨g, 0, none⟩) c s l ∧ Blk V w.heap.size 97 #[.int .i64 3, .int .i64 (t : Int), .int .i64 b, .int .i64 n] ∧ Touch F w V)) ⟨⟨HX.out.1.1.drewN _, HX.out.1.2.1.drewN _, HX.out.1.2.2⟩, HX.out.2.1.drewN _, HX.out.2.2.1.drewN _⟩ ?_
      rintro V hV
      clear p0 p2 e0 e1
      refine (rshadeL_any V base p F nu 2 (t : Int) mk _ c s l hV.out.1 (.inr ⟨t, rfl, HR.out.2.2⟩) hs1000).mono ?_
      rintro e w5 ⟨rfl, ⟨l5, m5a, m5b⟩, m5c, m5d, m5e⟩
      obtain ⟨f1, f2, ⟨ov, f3⟩, f4, f5⟩ := rhold_fin (t := t) (b := false) m5a (by rw [shadeI_length]; exact HR.out.2.2)
      rw [shadeI_length, HX.out.2.2.2] at f5
      have hd5 := hV.out.2.1.touch m5c hnD
      have e0 := hd5.cell 0 (v := .int .i64 3) rfl
      have e1 := hd5.cell 1 (v := .int .i64 (t : Int)) rfl
      have HQ := Lib.hid (And.intro f1 ((hV.out.2.2.trans m5c).setCell (p := ⟨g, t * 3 + 2, none⟩) f2 (.bool false))); clear f1 f2 m5a m5b m5c m5d m5e hd5
      go_wp2_with fail
      go_still_tail 11, (by kernel_rfl)
      change wpList _ _ _ _ _ (World.drew _)
      go_wp2_with fail
      rw [← HP.out]
      exact MdPost.same (HR.out.1.trans (by unfold holdI; simp)) rfl HQ.out.1.drew_ HQ.out.2.drew
  · rw [if_neg he] at hr
    have d1 : (holdE s ⟨3, a, b, n⟩ == 0) = false := by simpa using he
    obtain ⟨er, her⟩ : ∃ e, holdE s ⟨3, a, b, n⟩ = e := ⟨_, rfl⟩
    rw [her] at hr d1
    have HR := Lib.hid (And.intro hr her); clear hr he her
    go_enter Try.func53, Try.ntmps53
    go_wp2_with fail
    refine calls_world (fun V => W = V) H.out.eq ?_
    rintro V rfl
    refine (holdFault_any W base p F nu kind 3 a b n mk s H.out.st H.out.inv.fine H.out.ia).mono ?_
    rintro e w1 ⟨rfl, hb1⟩
    rw [HR.out.2]
    have hs1 := hb1.size
    have HZ := Lib.hid (And.intro (H.out.st.fresh hb1) (H.out.bel.trans (hb1.mono (by omega)))); clear hb1
    go_wp2_with fail
    rw [← HP.out]
    exact MdPost.same HR.out.1 rfl HZ.out.1 (Touch.ofBelow HZ.out.2)

end Go.Proofs.Ytpkccpegdpodoaa

/- R.Model: Gens, of a new thing, a setting, a holding, a minor collection; of another deed. -/
namespace Go.Proofs.Ytpkccpegdpodoaa
open Go.RowKit

attribute [local go_sem ↓] Go.wp_at_zero Go.wp_at_succ

/-- what a deed comes to, of the model -/
noncomputable def rM (nu : Int) (mk : Bool) (s : List It) (d : Dd) : Int × Int × Bool × List It := ((gensI nu s d).1, (gensI nu s d).2.1, mk, (gensI nu s d).2.2)
theorem rM_of {nu : Int} {mk : Bool} {s s' : List It} {d : Dd} {x y : Int} (h : gensI nu s d = (x, y, s')) : rM nu mk s d = (x, y, mk, s') := by unfold rM; rw [h]

/-- what is known ahead of a deed, its deed boxed -/
structure GePre (w W : World) (base p : Nat) (F : Nat → Prop) (nu kind dd a b n : Int) (mk : Bool) (s : List It) : Prop where
  eq : W = w.alloc (.cells #[.int .i64 dd, .int .i64 a, .int .i64 b, .int .i64 n] 97)
  st : Mdl W base F p nu kind mk s
  inv : GInv s
  lt : ∀ g, F g → g < w.heap.size
  ia : I64 a
  ib : I64 b
  in_ : I64 n
  bel : Below w.heap.size w W
  siz : W.heap.size = w.heap.size + 1
  blk : Blk W w.heap.size 97 #[.int .i64 dd, .int .i64 a, .int .i64 b, .int .i64 n]
theorem GePre.mk_ {w : World} {base p : Nat} {F : Nat → Prop} {nu kind dd a b n : Int} {mk : Bool} {s : List It} (h : Mdl w base F p nu kind mk s) (hi : GInv s) (hF : ∀ g, F g → g < w.heap.size) (hd : I64 a ∧ I64 b ∧ I64 n) :
    GePre w (w.alloc (.cells #[.int .i64 dd, .int .i64 a, .int .i64 b, .int .i64 n] 97)) base p F nu kind dd a b n mk s :=
  ⟨rfl, h.fresh ((Below.refl _ _).alloc (Nat.le_refl _) _), hi, hF, hd.1, hd.2.1, hd.2.2, (Below.refl _ _).alloc (Nat.le_refl _) _, by simp, Blk.new _ _ _⟩

/-- room is made -/
def RoomM (w V : World) (base p : Nat) (F : Nat → Prop) (nu kind a b n : Int) (mk : Bool) (s : List It) : Prop := Mdl V base F p nu kind mk s ∧ Touch F w V ∧ Blk V w.heap.size 97 #[.int .i64 1, .int .i64 a, .int .i64 b, .int .i64 n]

set_option maxHeartbeats 3200000 in
set_option maxRecDepth 100000 in
theorem gens1 (w W : World) (base p : Nat) (F : Nat → Prop) (nu kind a b n : Int) (mk : Bool) (s : List It) (h : GePre w W base p F nu kind 1 a b n mk s) :
    Calls Try.prog 88 #[.pointer (some ⟨p, 0, none⟩), .agg #[.int .i64 1, .int .i64 a, .int .i64 b, .int .i64 n]] w (MdPost base p F nu kind w (rM nu mk s ⟨1, a, b, n⟩)) := by
  obtain ⟨P, hP⟩ : ∃ P, MdPost base p F nu kind w (rM nu mk s ⟨1, a, b, n⟩) = P := ⟨_, rfl⟩
  have HP := Lib.hid hP
  rw [hP]; clear hP
  have hsz := h.siz
  have hr : gensI nu s ⟨1, a, b, n⟩ = if newE s n ≠ 0 then (0, newE s n, s) else ((s.length : Int), 0, roomI nu s ++ [newI 0 n]) := if_pos rfl
  have H := Lib.hid h; clear h
  have hp : p < W.heap.size := by obtain ⟨A, c, l, h1, -⟩ := H.out.st; exact h1.lt
  by_cases he : newE s n = 0
  · rw [if_neg (by simpa using he)] at hr
    obtain ⟨e1, e2, e3⟩ := newE_ok he
    obtain ⟨j, rfl⟩ := Int.eq_ofNat_of_zero_le e1
    have hr' := rM_of (mk := mk) hr
    have HR := Lib.hid (And.intro hr' he); clear hr hr' he
    go_enter Try.func88, Try.ntmps88
    go_wp2_with fail
    refine calls_world (fun V => W = V) H.out.eq ?_
    rintro V rfl
    refine (newFault_any W base p F nu kind 1 a b (j : Int) mk s H.out.st (by omega)).mono ?_
    rintro e w1 ⟨rfl, hb1⟩
    rw [HR.out.2]
    have hs1 := hb1.size
    have hM1 := H.out.st.fresh hb1
    have hD1 := H.out.blk.fresh hb1
    have hbw := H.out.bel.trans (hb1.mono (by omega))
    have hnu : w1.cell? ⟨p, 1, none⟩ = some (.int .i64 nu) := by obtain ⟨A, c, l, h1, -⟩ := hM1; exact h1.cell 1 rfl
    have hp1 : p < w1.heap.size := by omega
    have hcall := are_any w1.drew base p F nu kind 0 mk s (hM1.drewN 1) H.out.inv.small
    obtain ⟨y, hy⟩ : ∃ y, (are s 0).length = y := ⟨_, rfl⟩
    rw [hy] at hcall
    have hy100 : y ≤ 100 := by have := are_len s 0; have := H.out.inv.small; omega
    have HY := Lib.hid (And.intro hcall (And.intro hy (And.intro hM1 (And.intro hD1 hbw)))); clear hcall hy hM1 hD1 hb1 hbw
    go_upto_region 6 with fail
    go_cut [31] from 24 to 31 (fun ov V => ov = .bool (decide (nu ≤ (y : Int))) ∧ Below w1.heap.size w1 V)
    case first =>
      refine wp_region_held_drew (S := (fun w' => w'.cell? ⟨p, 1, none⟩ = some (.int .i64 nu))) (by kernel_rfl) ?_ (fun hHeld0 => ?_)
      · first | trivial | ((try dsimp only); (exact hnu))
      refine held_take (v := ?_) 0 rfl (by kernel_rfl) (by kernel_rfl) (by kernel_rfl) (fun _ _ _ h => h) (by rfl) ?_ (by assumption) ?_
      rotate_left
      · (intro w hSw; (try dsimp only at hSw); go_simp; try with_reducible rfl)
      try simp only [Act.put, List.setIfInBounds_toArray, List.set_cons_zero, List.set_cons_succ]
      refine held_take (v := ?_) 3 rfl (by kernel_rfl) (by kernel_rfl) (by kernel_rfl) (fun _ _ _ h => h) (by rfl) ?_ (by assumption) ?_
      rotate_left
      · (intro w hSw; (try dsimp only at hSw); go_simp; try with_reducible rfl)
      try simp only [Act.put, List.setIfInBounds_toArray, List.set_cons_zero, List.set_cons_succ]
      refine held_take (v := ?_) 4 rfl (by kernel_rfl) (by kernel_rfl) (by kernel_rfl) (fun _ _ _ h => h) (by rfl) ?_ (by assumption) ?_
      rotate_left
      · (intro w hSw; (try dsimp only at hSw); go_simp; try with_reducible rfl)
      try simp only [Act.put, List.setIfInBounds_toArray, List.set_cons_zero, List.set_cons_succ]
      refine held_take (v := ?_) 5 rfl (by kernel_rfl) (by kernel_rfl) (by kernel_rfl) (fun _ _ _ h => h) (by rfl) ?_ (by assumption) ?_
      rotate_left
      · (intro w hSw; (try dsimp only at hSw); go_simp; try with_reducible rfl)
      try simp only [Act.put, List.setIfInBounds_toArray, List.set_cons_zero, List.set_cons_succ]
      refine held_take (v := ?_) 6 rfl (by kernel_rfl) (by kernel_rfl) (by kernel_rfl) (fun _ _ _ h => h) (by rfl) ?_ (by assumption) ?_
      rotate_left
      · (intro w hSw; (try dsimp only at hSw); go_simp; try with_reducible rfl)
      try simp only [Act.put, List.setIfInBounds_toArray, List.set_cons_zero, List.set_cons_succ]
      refine held_call 1 (by kernel_rfl) rfl (fun K hK => ?_)
      go_simp
      go_at_call 90; refine HY.out.1.mono ?_; rintro e w2 ⟨YA, yc, rfl, -, hb2⟩; have hs2 := hb2.size; have k0 := (hb2.cell (p := ⟨p, 1, none⟩) hp1).trans hnu; have HB2 := Lib.hid (undrew hb2); clear hb2
      try (go_wp2_with fail)
      refine hK.out _ _ ?_ (fun hHeld1 => ?_)
      · first | trivial | ((try dsimp only); (exact k0))
      clear hK K hHeld0
      try simp only [Act.put, List.setIfInBounds_toArray, List.set_cons_zero, List.set_cons_succ]
      refine held_take (v := ?_) 2 rfl (by kernel_rfl) (by kernel_rfl) (by kernel_rfl) (fun _ _ _ h => h) (by rfl) ?_ (by assumption) ?_
      rotate_left
      · (intro w hSw; (try dsimp only at hSw); go_simp; try with_reducible rfl)
      try simp only [Act.put, List.setIfInBounds_toArray, List.set_cons_zero, List.set_cons_succ]
      refine held_take (v := ?_) 7 rfl (by kernel_rfl) (by kernel_rfl) (by kernel_rfl) (fun _ _ _ h => h) (by rfl) ?_ (by assumption) ?_
      rotate_left
      · (intro w hSw; (try dsimp only at hSw); go_simp; try with_reducible rfl)
      try simp only [Act.put, List.setIfInBounds_toArray, List.set_cons_zero, List.set_cons_succ]
      refine wpAnyH_done (by kernel_rfl) ?_ _
      go_wp2_with fail
      go_meet
      exact ⟨rfl, HB2.out⟩
    case rest =>
      obtain ⟨rfl, hbc⟩ := hcut
      clear hnu
      by_cases hge : nu ≤ (y : Int)
      · have hroom : roomI nu s = minorI s := by unfold roomI; rw [HY.out.2.1, if_pos hge]
        have HB := Lib.hid (And.intro hroom hbc); clear hroom hbc
        go_wp2_with fail
        refine (rminor_any wc base p F nu kind mk s (HY.out.2.2.1.fresh HB.out.2) H.out.inv (fun g hg => by have := H.out.lt g hg; have := HB.out.2.size; omega)).mono ?_
        rintro e w2 ⟨rfl, g2, hT2⟩
        have HM := Lib.hid (show RoomM w w2 base p F nu kind a b j mk (roomI nu s) from ⟨by rw [HB.out.1]; exact g2, ((Touch.ofBelow HY.out.2.2.2.2).trans (Touch.ofBelow HB.out.2)).trans hT2, (HY.out.2.2.2.1.fresh HB.out.2).touch hT2 (fun e => by have := H.out.lt _ e; omega)⟩); clear g2 hT2
        have hn3 := HM.out.2.2.cell 3 (v := .int .i64 (j : Int)) rfl
        have hsV := HM.out.2.1.size
        go_wp2_with fail
        refine (more_any w2 base p F nu kind 0 j mk (roomI nu s) HM.out.1 (fun g hg => by have := H.out.lt g hg; omega) (by omega) (by rw [roomI_length]; omega) (by unfold I64; omega)).mono ?_
        rintro e w3 ⟨rfl, hm3, hT3⟩
        rw [roomI_length]
        have HZ := Lib.hid (And.intro (hm3.mono (fun g hg => Up.from hsV hg)) (HM.out.2.1.trans hT3)); clear hm3 hT3
        go_wp2_with fail
        rw [← HP.out]
        exact MdPost.of HR.out.1 rfl HZ.out.1 HZ.out.2
      · have hroom : roomI nu s = s := by unfold roomI; rw [HY.out.2.1, if_neg (by omega)]
        have HM := Lib.hid (show RoomM w wc base p F nu kind a b j mk (roomI nu s) from ⟨by rw [hroom]; exact HY.out.2.2.1.fresh hbc, (Touch.ofBelow HY.out.2.2.2.2).trans (Touch.ofBelow hbc), HY.out.2.2.2.1.fresh hbc⟩); clear hbc hroom
        have hn3 := HM.out.2.2.cell 3 (v := .int .i64 (j : Int)) rfl
        have hsV := HM.out.2.1.size
        go_wp2_with fail
        refine (more_any wc base p F nu kind 0 j mk (roomI nu s) HM.out.1 (fun g hg => by have := H.out.lt g hg; omega) (by omega) (by rw [roomI_length]; omega) (by unfold I64; omega)).mono ?_
        rintro e w3 ⟨rfl, hm3, hT3⟩
        rw [roomI_length]
        have HZ := Lib.hid (And.intro (hm3.mono (fun g hg => Up.from hsV hg)) (HM.out.2.1.trans hT3)); clear hm3 hT3
        go_wp2_with fail
        rw [← HP.out]
        exact MdPost.of HR.out.1 rfl HZ.out.1 HZ.out.2
  · rw [if_pos (by simpa using he)] at hr
    have d1 : (newE s n != 0) = true := by simpa using he
    obtain ⟨er, her⟩ : ∃ e, newE s n = e := ⟨_, rfl⟩
    rw [her] at hr d1
    have hr' := rM_of (mk := mk) hr
    have HR := Lib.hid (And.intro hr' her); clear hr hr' he her
    go_enter Try.func88, Try.ntmps88
    go_wp2_with fail
    refine calls_world (fun V => W = V) H.out.eq ?_
    rintro V rfl
    refine (newFault_any W base p F nu kind 1 a b n mk s H.out.st (by have := H.out.inv.small; omega)).mono ?_
    rintro e w1 ⟨rfl, hb1⟩
    rw [HR.out.2]
    have hs1 := hb1.size
    have HZ := Lib.hid (And.intro (H.out.st.fresh hb1) (H.out.bel.trans (hb1.mono (by omega)))); clear hb1
    go_wp2_with fail
    rw [← HP.out]
    exact MdPost.same HR.out.1 rfl HZ.out.1 (Touch.ofBelow HZ.out.2)

theorem rsetG_fin {w : World} {base p t j gx g c xc : Nat} {F : Nat → Prop} {nu kind dd b xs : Int} {mk xb : Bool} {s : List It} {l : List ItR} {xh : List Int}
    (h : MdlL w base F p nu kind mk (some ⟨g, 0, none⟩) c s l) (hx : l[t]? = some ⟨some ⟨gx, 0, none⟩, xc, xh, xs, xb⟩) (hj : j < xh.length) (hb : I64 b) :
    Mdl (w.setCell ⟨gx, j, none⟩ (.int .i64 b)) base F p nu kind mk (setG ⟨dd, (t : Int), b, (j : Int)⟩ s) ∧ F gx ∧ (∃ v, w.cell? ⟨gx, j, none⟩ = some (.int .i64 v)) ∧ w.frozen? ⟨gx, j, none⟩ = false ∧
      w.cell? ⟨p, 0, none⟩ = some (.slice (some ⟨g, 0, none⟩) s.length c) ∧ w.cell? ⟨g, t * 3, none⟩ = some (.slice (some ⟨gx, 0, none⟩) xh.length xc) := by
  obtain ⟨h1, h2, h3, h4, h5⟩ := h
  have hsub := h2.sub t _ hx
  have hown := hsub.1
  simp only at hown
  have hset := h2.setHas hx (by decide) rfl (j := j) hj b hb
  have hits := its_set l t _ { (⟨some ⟨gx, 0, none⟩, xc, xh, xs, xb⟩ : ItR) with has := xh.set j b } (It.sethas j b) hx rfl
  rw [h5] at hits
  have hne : p ≠ gx := fun e => own_ne_ty hown h1 (by decide) (by rw [← e]; rfl)
  obtain ⟨g', hgg, -, -, q0, -, -⟩ := h2.cells hx
  injection hgg with hgg; injection hgg with hgg; subst hgg
  have hll : l.length = s.length := by rw [← its_length, h5]
  refine ⟨⟨_, c, _, by rw [List.length_set]; exact h1.far (p := ⟨gx, j, none⟩) hne _, hset, h3, h4, ?_⟩, hsub.2.1 gx rfl, ⟨xh[j], hown.cell_int (List.getElem?_eq_getElem hj)⟩, hown.frozen rfl j, by rw [← hll]; exact h1.cell 0 rfl, q0⟩
  rw [hits]
  unfold setG
  simp only [Int.toNat_natCast]
theorem gensI_set (nu : Int) (s : List It) (a b n : Int) : gensI nu s ⟨2, a, b, n⟩ = (0, setE s ⟨2, a, b, n⟩, if setE s ⟨2, a, b, n⟩ = 0 then setG ⟨2, a, b, n⟩ s else s) := by
  unfold gensI
  rw [if_neg (show ¬ (2 : Int) = 1 by decide), if_pos rfl]
  split
  · rename_i hq; first | rfl | rw [if_neg hq]
  · rename_i hq; have hq' : setE s ⟨2, a, b, n⟩ = 0 := by simpa using hq
    rw [hq', if_pos rfl]
theorem gensI_hold (nu : Int) (s : List It) (dd a b n : Int) (hd : dd = 4 ∨ dd = 3) : gensI nu s ⟨dd, a, b, n⟩ = (0, holdE s ⟨dd, a, b, n⟩, if holdE s ⟨dd, a, b, n⟩ = 0 then holdG ⟨dd, a, b, n⟩ s else s) := by
  unfold gensI
  rw [if_neg (show ¬ dd = 1 by omega), if_neg (show ¬ dd = 2 by omega), if_pos hd]
  split
  · rename_i hq; first | rfl | rw [if_neg hq]
  · rename_i hq; have hq' : holdE s ⟨dd, a, b, n⟩ = 0 := by simpa using hq
    rw [hq', if_pos rfl]

set_option maxHeartbeats 3200000 in
set_option maxRecDepth 100000 in
theorem gens2 (w W : World) (base p : Nat) (F : Nat → Prop) (nu kind a b n : Int) (mk : Bool) (s : List It) (h : GePre w W base p F nu kind 2 a b n mk s) :
    Calls Try.prog 88 #[.pointer (some ⟨p, 0, none⟩), .agg #[.int .i64 2, .int .i64 a, .int .i64 b, .int .i64 n]] w (MdPost base p F nu kind w (rM nu mk s ⟨2, a, b, n⟩)) := by
  obtain ⟨P, hP⟩ : ∃ P, MdPost base p F nu kind w (rM nu mk s ⟨2, a, b, n⟩) = P := ⟨_, rfl⟩
  have HP := Lib.hid hP
  rw [hP]; clear hP
  have hsz := h.siz
  have hr := gensI_set nu s a b n
  have H := Lib.hid h; clear h
  by_cases he : setE s ⟨2, a, b, n⟩ = 0
  · rw [he, if_pos rfl] at hr
    obtain ⟨z1, z2, z3⟩ := setE_zero he
    simp only at z2 z3
    obtain ⟨t, rfl, htl, -⟩ := namedE_zero z1 a (by unfold setL; split <;> simp)
    obtain ⟨j, rfl⟩ := Int.eq_ofNat_of_zero_le z2
    have hr' := rM_of (mk := mk) hr
    have HR := Lib.hid (And.intro hr' (And.intro he (And.intro z3 htl))); clear hr hr' he z1 z2 z3 htl
    go_enter Try.func88, Try.ntmps88
    go_wp2_with fail
    refine calls_world (fun V => W = V) H.out.eq ?_
    rintro V rfl
    refine (setFault_any W base p F nu kind 2 (t : Int) b (j : Int) mk s H.out.st H.out.inv.fine ⟨H.out.ia, H.out.ib, H.out.in_⟩).mono ?_
    rintro e w1 ⟨rfl, hb1⟩
    rw [HR.out.2.1]
    have hs1 := hb1.size
    obtain ⟨A, c, l, m1, m2, m3, m4, m5⟩ := H.out.st.fresh hb1
    have hD1 := H.out.blk.fresh hb1
    have hll : l.length = s.length := by rw [← m5, its_length]
    obtain ⟨L, hL⟩ : ∃ L, s.length = L := ⟨_, rfl⟩
    obtain ⟨x, hx⟩ : ∃ x, l[t]? = some x := ⟨_, List.getElem?_eq_getElem (by have := HR.out.2.2.2; omega)⟩
    obtain ⟨g, rfl, hg1, hg2, -, -, -⟩ := m2.cells hx
    have hsx : s[t]? = some x.it := by rw [← m5]; exact its_get hx
    obtain ⟨XA, xc, xh, xs, xb⟩ := x
    have hat : hasAt s (t : Int) = xh := by unfold hasAt; rw [Int.toNat_natCast, hsx]; rfl
    have hjx : j < xh.length := by have := HR.out.2.2.1; rw [hat] at this; omega
    obtain ⟨gx, rfl, hgx1, hgx2⟩ := (m2.sub t _ hx).1.some_ (by simp only; omega)
    obtain ⟨f1, f2, ⟨ov, f3⟩, f4, f5, f6⟩ := rsetG_fin (dd := 2) (show MdlL w1 base F p nu kind mk (some ⟨g, 0, none⟩) c s l from ⟨m1, m2, m3, m4, m5⟩) hx hjx H.out.ib
    obtain ⟨xn, hxn⟩ : ∃ n, xh.length = n := ⟨_, rfl⟩
    rw [hxn] at f6 hjx
    rw [hL] at f5
    have e1 := hD1.cell 1 (v := .int .i64 (t : Int)) rfl
    have e2 := hD1.cell 2 (v := .int .i64 b) rfl
    have e3 := hD1.cell 3 (v := .int .i64 (j : Int)) rfl
    have t0 : (0 : Int) ≤ (t : Int) := by omega
    have t1 : (t : Int) < (L : Int) := by have := HR.out.2.2.2; omega
    have j0 : (0 : Int) ≤ (j : Int) := by omega
    have j1 : (j : Int) < (xn : Int) := by omega
    have HQ := Lib.hid (And.intro f1 ((Touch.ofBelow (F := F) (H.out.bel.trans (hb1.mono (by omega)))).setCell (p := ⟨gx, j, none⟩) f2 (.int .i64 b))); clear f1 f2 m1 m2 m3 m4 m5 hll hx hsx hat hxn hb1 hL hD1 hjx
    go_wp2_with fail
    go_still_tail 14, (by kernel_rfl)
    change wpList _ _ _ _ _ (World.drew _)
    go_wp2_with fail
    rw [← HP.out]
    exact MdPost.same HR.out.1 rfl (HQ.out.1.drewN 1) (HQ.out.2.drewN 1)
  · rw [if_neg he] at hr
    have d1 : (setE s ⟨2, a, b, n⟩ == 0) = false := by simpa using he
    obtain ⟨er, her⟩ : ∃ e, setE s ⟨2, a, b, n⟩ = e := ⟨_, rfl⟩
    rw [her] at hr d1
    have hr' := rM_of (mk := mk) hr
    have HR := Lib.hid (And.intro hr' her); clear hr hr' he her
    go_enter Try.func88, Try.ntmps88
    go_wp2_with fail
    refine calls_world (fun V => W = V) H.out.eq ?_
    rintro V rfl
    refine (setFault_any W base p F nu kind 2 a b n mk s H.out.st H.out.inv.fine ⟨H.out.ia, H.out.ib, H.out.in_⟩).mono ?_
    rintro e w1 ⟨rfl, hb1⟩
    rw [HR.out.2]
    have hs1 := hb1.size
    have HZ := Lib.hid (And.intro (H.out.st.fresh hb1) (H.out.bel.trans (hb1.mono (by omega)))); clear hb1
    go_wp2_with fail
    rw [← HP.out]
    exact MdPost.same HR.out.1 rfl HZ.out.1 (Touch.ofBelow HZ.out.2)

set_option maxHeartbeats 3200000 in
set_option maxRecDepth 100000 in
theorem gens43 (w W : World) (base p : Nat) (F : Nat → Prop) (nu kind dd a b n : Int) (mk : Bool) (s : List It) (h : GePre w W base p F nu kind dd a b n mk s) (hd : dd = 4 ∨ dd = 3) :
    Calls Try.prog 88 #[.pointer (some ⟨p, 0, none⟩), .agg #[.int .i64 dd, .int .i64 a, .int .i64 b, .int .i64 n]] w (MdPost base p F nu kind w (rM nu mk s ⟨dd, a, b, n⟩)) := by
  obtain ⟨P, hP⟩ : ∃ P, MdPost base p F nu kind w (rM nu mk s ⟨dd, a, b, n⟩) = P := ⟨_, rfl⟩
  have HP := Lib.hid hP
  rw [hP]; clear hP
  have hsz := h.siz
  have hr := gensI_hold nu s dd a b n hd
  have H := Lib.hid h; clear h
  have d1 : (dd == 1) = false := by rcases hd with rfl | rfl <;> rfl
  have d2 : (dd == 2) = false := by rcases hd with rfl | rfl <;> rfl
  have hdv : ((dd == 4) = true ∧ decide (dd = 4) = true) ∨ ((dd == 4) = false ∧ (dd == 3) = true ∧ decide (dd = 4) = false) := by rcases hd with rfl | rfl <;> simp
  by_cases he : holdE s ⟨dd, a, b, n⟩ = 0
  · rw [he, if_pos rfl] at hr
    obtain ⟨t, rfl, htl, -⟩ := namedE_zero (holdE_zero he) a (by simp)
    have hr' := rM_of (mk := mk) hr
    have HR := Lib.hid (And.intro hr' (And.intro he htl)); clear hr hr' he htl hd
    rcases hdv with ⟨d4, hv⟩ | ⟨d4, d3, hv⟩
    all_goals
      have HD := Lib.hid hv; clear hv
      go_enter Try.func88, Try.ntmps88
      go_wp2_with fail
      refine calls_world (fun V => W = V) H.out.eq ?_
      rintro V rfl
      refine (holdFault_any W base p F nu kind dd (t : Int) b n mk s H.out.st H.out.inv.fine H.out.ia).mono ?_
      rintro e w1 ⟨rfl, hb1⟩
      rw [HR.out.2.1]
      have hs1 := hb1.size
      obtain ⟨A, c, l, m1, m2, m3, m4, m5⟩ := H.out.st.fresh hb1
      have hD1 := H.out.blk.fresh hb1
      have hll : l.length = s.length := by rw [← m5, its_length]
      obtain ⟨L, hL⟩ : ∃ L, s.length = L := ⟨_, rfl⟩
      obtain ⟨x, hx⟩ : ∃ x, l[t]? = some x := ⟨_, List.getElem?_eq_getElem (by have := HR.out.2.2; omega)⟩
      obtain ⟨g, rfl, hg1, hg2, -, -, -⟩ := m2.cells hx
      obtain ⟨f1, f2, ⟨ov, f3⟩, f4, f5⟩ := rhold_fin (t := t) (b := decide (dd = 4)) (show MdlL w1 base F p nu kind mk (some ⟨g, 0, none⟩) c s l from ⟨m1, m2, m3, m4, m5⟩) HR.out.2.2
      rw [HD.out] at f1
      rw [hL] at f5
      have e0 := hD1.cell 0 (v := .int .i64 dd) rfl
      have e1 := hD1.cell 1 (v := .int .i64 (t : Int)) rfl
      have t0 : (0 : Int) ≤ (t : Int) := by omega
      have t1 : (t : Int) < (L : Int) := by have := HR.out.2.2; omega
      have HQ := Lib.hid (And.intro f1 (fun v => (Touch.ofBelow (F := F) (H.out.bel.trans (hb1.mono (by omega)))).setCell (p := ⟨g, t * 3 + 2, none⟩) f2 v)); clear f1 f2 m1 m2 m3 m4 m5 hll hx hb1 hL hD1
      go_wp2_with fail
      go_still_tail 11, (by kernel_rfl)
      change wpList _ _ _ _ _ (World.drew _)
      go_wp2_with fail
      rw [← HP.out]
      exact MdPost.same HR.out.1 rfl (by unfold holdG; simp only [Int.toNat_natCast]; rw [HD.out]; exact HQ.out.1.drew_) (HQ.out.2 _).drew
  · rw [if_neg he] at hr
    have d5 : (holdE s ⟨dd, a, b, n⟩ == 0) = false := by simpa using he
    obtain ⟨er, her⟩ : ∃ e, holdE s ⟨dd, a, b, n⟩ = e := ⟨_, rfl⟩
    rw [her] at hr d5
    have hr' := rM_of (mk := mk) hr
    have HR := Lib.hid (And.intro hr' her); clear hr hr' he her hd
    rcases hdv with ⟨d4, hv⟩ | ⟨d4, d3, hv⟩
    all_goals
      clear hv
      go_enter Try.func88, Try.ntmps88
      go_wp2_with fail
      refine calls_world (fun V => W = V) H.out.eq ?_
      rintro V rfl
      refine (holdFault_any W base p F nu kind dd a b n mk s H.out.st H.out.inv.fine H.out.ia).mono ?_
      rintro e w1 ⟨rfl, hb1⟩
      rw [HR.out.2]
      have hs1 := hb1.size
      have HZ := Lib.hid (And.intro (H.out.st.fresh hb1) (H.out.bel.trans (hb1.mono (by omega)))); clear hb1
      go_wp2_with fail
      rw [← HP.out]
      exact MdPost.same HR.out.1 rfl HZ.out.1 (Touch.ofBelow HZ.out.2)

set_option maxHeartbeats 1600000 in
set_option maxRecDepth 100000 in
theorem gens6 (w W : World) (base p : Nat) (F : Nat → Prop) (nu kind a b n : Int) (mk : Bool) (s : List It) (h : GePre w W base p F nu kind 6 a b n mk s) :
    Calls Try.prog 88 #[.pointer (some ⟨p, 0, none⟩), .agg #[.int .i64 6, .int .i64 a, .int .i64 b, .int .i64 n]] w (MdPost base p F nu kind w (rM nu mk s ⟨6, a, b, n⟩)) := by
  obtain ⟨P, hP⟩ : ∃ P, MdPost base p F nu kind w (rM nu mk s ⟨6, a, b, n⟩) = P := ⟨_, rfl⟩
  have HP := Lib.hid hP
  rw [hP]; clear hP
  have hsz := h.siz
  have hr : gensI nu s ⟨6, a, b, n⟩ = ((minorN s : Int), 0, minorI s) := by
    unfold gensI
    rw [if_neg (show ¬ (6 : Int) = 1 by decide), if_neg (show ¬ (6 : Int) = 2 by decide), if_neg (show ¬ ((6 : Int) = 4 ∨ (6 : Int) = 3) by decide), if_pos rfl]
  have hr' := rM_of (mk := mk) hr
  have H := Lib.hid (And.intro h hr'); clear h hr hr'
  go_enter Try.func88, Try.ntmps88
  go_wp2_with fail
  refine calls_world (fun V => W = V) H.out.1.eq ?_
  rintro V rfl
  refine (rminor_any W base p F nu kind mk s H.out.1.st H.out.1.inv (fun g hg => by have := H.out.1.lt g hg; omega)).mono ?_
  rintro e w1 ⟨rfl, k1, k2⟩
  have HZ := Lib.hid (And.intro k1 ((Touch.ofBelow H.out.1.bel).trans k2)); clear k1 k2
  go_wp2_with fail
  rw [← HP.out]
  exact MdPost.same H.out.2 rfl HZ.out.1 HZ.out.2

set_option maxHeartbeats 800000 in
set_option maxRecDepth 100000 in
theorem gensX (w W : World) (base p : Nat) (F : Nat → Prop) (nu kind dd a b n : Int) (mk : Bool) (s : List It) (h : GePre w W base p F nu kind dd a b n mk s) (h1 : dd ≠ 1) (h2 : dd ≠ 2) (h4 : dd ≠ 4) (h3 : dd ≠ 3) (h6 : dd ≠ 6) (h7 : dd ≠ 7) :
    Calls Try.prog 88 #[.pointer (some ⟨p, 0, none⟩), .agg #[.int .i64 dd, .int .i64 a, .int .i64 b, .int .i64 n]] w (MdPost base p F nu kind w (rM nu mk s ⟨dd, a, b, n⟩)) := by
  obtain ⟨P, hP⟩ : ∃ P, MdPost base p F nu kind w (rM nu mk s ⟨dd, a, b, n⟩) = P := ⟨_, rfl⟩
  have HP := Lib.hid hP
  rw [hP]; clear hP
  have hr : gensI nu s ⟨dd, a, b, n⟩ = (0, 7, s) := by
    unfold gensI
    rw [if_neg h1, if_neg h2, if_neg (by rintro (h | h) <;> first | exact h4 h | exact h3 h), if_neg h6, if_neg h7]
  have hr' := rM_of (mk := mk) hr
  have d1 : (dd == 1) = false := by simpa using h1
  have d2 : (dd == 2) = false := by simpa using h2
  have d4 : (dd == 4) = false := by simpa using h4
  have d3 : (dd == 3) = false := by simpa using h3
  have d6 : (dd == 6) = false := by simpa using h6
  have d7 : (dd == 7) = false := by simpa using h7
  have H := Lib.hid (And.intro h hr'); clear h hr hr' h1 h2 h4 h3 h6 h7
  go_enter Try.func88, Try.ntmps88
  go_wp2_with fail
  rw [← HP.out, ← H.out.1.eq]
  exact MdPost.same H.out.2 rfl H.out.1.st (Touch.ofBelow H.out.1.bel)

end Go.Proofs.Ytpkccpegdpodoaa

/- Two generations: a major collection of the model, thing by thing. No program is named here. -/
namespace Go.Proofs.Ytpkccpegdpodoaa

def stayK (ag : List Int) (st : List Bool) (k : Nat) (s : List It) : List It := s.mapIdx fun n x => if n < k then stayX ag st n x else x
theorem stayK_length (ag : List Int) (st : List Bool) (k : Nat) (s : List It) : (stayK ag st k s).length = s.length := by simp [stayK]
theorem stayK_get (ag : List Int) (st : List Bool) (k : Nat) (s : List It) (i : Nat) {x : It} (h : s[i]? = some x) : (stayK ag st k s)[i]? = some (if i < k then stayX ag st i x else x) := by
  unfold stayK; rw [List.getElem?_mapIdx, h]; rfl
theorem stayK_zero (ag : List Int) (st : List Bool) (s : List It) : stayK ag st 0 s = s := by
  apply List.ext_getElem?; intro i
  unfold stayK; rw [List.getElem?_mapIdx]
  cases s[i]? <;> simp
theorem stayK_all (ag : List Int) (st : List Bool) (s : List It) : stayK ag st s.length s = stayL ag st s := by
  apply List.ext_getElem?; intro i
  cases hs : s[i]? with
  | none =>
    have hi : s.length ≤ i := by rw [List.getElem?_eq_none_iff] at hs; exact hs
    rw [List.getElem?_eq_none (by rw [stayK_length]; exact hi), List.getElem?_eq_none (by rw [stayL_length]; exact hi)]
  | some x => rw [stayK_get ag st _ s i hs, if_pos (List.getElem?_eq_some_iff.1 hs).1, stayL_get ag st s i hs]
theorem stayK_step (ag : List Int) (st : List Bool) (k : Nat) (s : List It) : stayK ag st (k + 1) s = (stayK ag st k s).modify k (stayX ag st k) := by
  apply List.ext_getElem?; intro i
  rw [get_modify]
  cases hs : s[i]? with
  | none =>
    have hi : s.length ≤ i := by rw [List.getElem?_eq_none_iff] at hs; exact hs
    rw [List.getElem?_eq_none (by rw [stayK_length]; exact hi), List.getElem?_eq_none (by rw [stayK_length]; exact hi)]
    simp
  | some x =>
    rw [stayK_get ag st (k + 1) s i hs, stayK_get ag st k s i hs]
    by_cases e : k = i
    · subst e
      rw [if_pos (by omega), if_pos rfl, if_neg (by omega)]; rfl
    · rw [if_neg e]
      by_cases h : i < k
      · rw [if_pos (by omega), if_pos h]
      · rw [if_neg (by omega), if_neg h]
theorem stayK_same (ag : List Int) (st : List Bool) (k : Nat) (s : List It) {x : It} (h : s[k]? = some x) (hx : stayX ag st k x = x) : stayK ag st (k + 1) s = stayK ag st k s := by
  rw [stayK_step]
  apply List.ext_getElem?; intro i
  rw [get_modify]
  by_cases e : k = i
  · subst e
    have := stayK_get ag st k s k h
    rw [if_neg (by omega)] at this
    rw [if_pos rfl, this]; simp [hx]
  · rw [if_neg e]
theorem stayK_set (ag : List Int) (st : List Bool) (k : Nat) (s : List It) {x : It} (h : s[k]? = some x) (hx : (ag.contains x.st && st.getD k false) = true) : stayK ag st (k + 1) s = (stayK ag st k s).modify k (It.setst 1) := by
  rw [stayK_step]
  apply List.ext_getElem?; intro i
  rw [get_modify, get_modify]
  by_cases e : k = i
  · subst e
    have := stayK_get ag st k s k h
    rw [if_neg (by omega)] at this
    rw [if_pos rfl, if_pos rfl, this]
    show some _ = some _
    congr 1
    unfold stayX
    rw [if_pos hx]
  · rw [if_neg e, if_neg e]
theorem alive_ag {s : List It} (hi : GInv s) {k : Nat} {x : It} (h : s[k]? = some x) : ([0, 1] : List Int).contains x.st = (x.st != 2) := by
  rcases hi.sts x (List.mem_of_getElem? h) with e | e | e <;> rw [e] <;> rfl

end Go.Proofs.Ytpkccpegdpodoaa

/- R.Model: Gens, of a major collection; of any deed. -/
namespace Go.Proofs.Ytpkccpegdpodoaa
open Go.RowKit

attribute [local go_sem ↓] Go.wp_at_zero Go.wp_at_succ

set_option maxHeartbeats 3200000 in
set_option maxRecDepth 100000 in
theorem gens7 (w W : World) (base p : Nat) (F : Nat → Prop) (nu kind a b n : Int) (mk : Bool) (s : List It) (h : GePre w W base p F nu kind 7 a b n mk s) :
    Calls Try.prog 88 #[.pointer (some ⟨p, 0, none⟩), .agg #[.int .i64 7, .int .i64 a, .int .i64 b, .int .i64 n]] w (MdPost base p F nu kind w (rM nu mk s ⟨7, a, b, n⟩)) := by
  obtain ⟨P, hP⟩ : ∃ P, MdPost base p F nu kind w (rM nu mk s ⟨7, a, b, n⟩) = P := ⟨_, rfl⟩
  have HP := Lib.hid hP
  rw [hP]; clear hP
  obtain ⟨ti, hti, hz0, hz1, hz2⟩ := info_parts infoInt
  have hsz := h.siz
  have hr : gensI nu s ⟨7, a, b, n⟩ = ((majorN s : Int), 0, majorI s) := by
    unfold gensI
    rw [if_neg (show ¬ (7 : Int) = 1 by decide), if_neg (show ¬ (7 : Int) = 2 by decide), if_neg (show ¬ ((7 : Int) = 4 ∨ (7 : Int) = 3) by decide), if_neg (show ¬ (7 : Int) = 6 by decide), if_pos rfl]
  have hr' := rM_of (mk := mk) hr
  obtain ⟨N, hN⟩ : ∃ N, s.length = N := ⟨_, rfl⟩
  have hN100 : N ≤ 100 := by have := h.inv.small; omega
  have H := Lib.hid (And.intro h (And.intro hr' hN)); clear h hr hr' hN
  go_enter Try.func88, Try.ntmps88
  go_wp2_with fail
  refine calls_world (fun V => W = V) H.out.1.eq ?_
  rintro V rfl
  refine (rgraph_any W base p F nu kind mk s H.out.1.st H.out.1.inv.fine.small H.out.1.inv.fine.long H.out.1.inv.fine.neg).mono ?_
  rintro e w1 ⟨GA, RA, gc, rc, m, rfl, g1, g2, g3, hb1⟩
  have hs1 := hb1.size
  have hsn : s.length = N := H.out.2.2
  rw [hsn]
  have hm100 : m ≤ 100 := by have := gRoots_len s; omega
  have HG := Lib.hid (And.intro g1 (And.intro g2 g3)); clear g1 g2 g3 hsn
  go_wp2_with fail
  refine calls_world (fun W => Below w1.heap.size w1 W ∧ w1.heap.size < W.heap.size) ⟨(Below.refl _ _).alloc (Nat.le_refl _) _, by simp⟩ ?_
  rintro U ⟨hU, hsU⟩
  have hgl : (gHas s).length = N := by rw [gHas_length]; exact H.out.2.2
  have hsl : (s.map It.held).length ≤ 1000000 := by rw [List.length_map, H.out.2.2]; omega
  refine (fromR_any gc rc N m GA RA (gHas s) (gRoots s) U hgl HG.out.2.2 ((HG.out.1.below hU).more (by omega)) ((HG.out.2.1.fresh hU).at_ (rising_I64 _ hsl)) H.out.1.inv.fine.right H.out.1.inv.fine.rightL hN100 (by omega) H.out.1.inv.fine.glen).mono ?_
  rintro e w2 ⟨S, sc, rfl, ho2, hb2⟩
  have hs2 := hb2.size
  have hb : Below w.heap.size w w2 := H.out.1.bel.trans ((hb1.mono (by omega)).trans ((hU.mono (by omega)).trans (hb2.mono (by omega))))
  obtain ⟨A, c, hA⟩ := H.out.1.st.fresh ((hb1.trans (hU.mono hs1)).trans (hb2.mono (by omega)))
  obtain ⟨p0, hplt⟩ := hA.top
  rw [H.out.2.2] at p0
  have hnl : (needed s).length = N := by unfold needed; rw [fromL_length, gHas_length]; exact H.out.2.2
  have HO := Lib.hid (And.intro (show Own w2 U.heap.size 4 S sc (needed s) from ho2) (And.intro hnl (And.intro hb hA))); clear ho2 hgl hsl hnl hb hA
  go_wp2_with fail
  clear p0
  go_loopg [11, 97] N (fun gk ov iv wr => ∃ (k m : Nat) (OA : Option Addr) (oc : Nat), k ≤ N ∧ gk = N - k ∧ iv = .int .i64 k ∧ ov = .slice OA m oc ∧ m ≤ k ∧ Hid (MdlA wr base F p nu kind mk A c (stayK [0, 1] (needed s) k s) ∧ Own wr w2.heap.size 3 OA oc (rising ((outB [0, 1] (needed s) s).take k)) ∧ (rising ((outB [0, 1] (needed s) s).take k)).length = m) ∧ Touch F w2 wr)
  case atStart => exact ⟨0, 0, none, 0, Nat.zero_le _, rfl, rfl, rfl, Nat.le_refl _, ⟨by rw [stayK_zero]; exact HO.out.2.2.2, Own.nil_, rfl⟩, Touch.refl _ _⟩
  case round =>
    obtain ⟨k, m, OA, oc, hk, rfl, rfl, rfl, hm, hkq, hT⟩ := hrel
    have hsT := hT.size
    by_cases hlt : k < N
    · obtain ⟨x, hx⟩ : ∃ x, s[k]? = some x := ⟨_, List.getElem?_eq_getElem (by have := H.out.2.2; omega)⟩
      have hxk := stayK_get [0, 1] (needed s) k s k hx
      rw [if_neg (by omega)] at hxk
      have hag := alive_ag H.out.1.inv hx
      obtain ⟨v, hv⟩ : ∃ v, (needed s)[k]? = some v := ⟨_, List.getElem?_eq_getElem (by have := HO.out.2.1; omega)⟩
      have hgd : (needed s).getD k false = v := by rw [List.getD_eq_getElem?_getD, hv]; rfl
      have hst : (x.st != 2 && v) = true → stayK [0, 1] (needed s) (k + 1) s = (stayK [0, 1] (needed s) k s).modify k (It.setst 1) := fun h => stayK_set _ _ k s hx (by rw [hag, hgd]; exact h)
      have hsm : (x.st != 2 && v) = false → stayK [0, 1] (needed s) (k + 1) s = stayK [0, 1] (needed s) k s := fun h => stayK_same _ _ k s hx (by unfold stayX; rw [if_neg (by rw [hag, hgd, h]; simp)])
      have hs1 : (x.st != 2 && !v) = true → rising ((outB [0, 1] (needed s) s).take (k + 1)) = rising ((outB [0, 1] (needed s) s).take k) ++ [(k : Int)] := fun h => by
        have e := outL_snoc [0, 1] (needed s) s k hx
        rw [if_pos (by rw [hag, hgd]; exact h)] at e; exact e
      have hs0 : (x.st != 2 && !v) = false → rising ((outB [0, 1] (needed s) s).take (k + 1)) = rising ((outB [0, 1] (needed s) s).take k) := fun h => by
        have e := outL_snoc [0, 1] (needed s) s k hx
        rw [if_neg (by rw [hag, hgd, h]; simp), List.append_nil] at e; exact e
      clear hag
      have ho := HO.out.1.touch_ hT (fun g hg hf => by have h1 := (HO.out.1.lt g hg).1; have h2 := H.out.1.lt g hf; omega)
      obtain ⟨gs, rfl, _, _⟩ := ho.some_ (by have := HO.out.2.1; omega)
      have s0 := ho.cell_bool hv
      obtain ⟨l, m1, m2, m3, m4, m5⟩ := hkq.out.1
      have hlN : l.length = N := by rw [← its_length, m5, stayK_length]; exact H.out.2.2
      rw [← m5] at hxk
      obtain ⟨y, hy, rfl⟩ := get_its hxk
      obtain ⟨g, rfl, hg1, hg2, q0, q1, q2⟩ := m2.cells hy
      obtain ⟨YA, yc, yh, vs, vb⟩ := y
      simp only at q0 q1 q2
      simp only [ItR.it] at hs0 hs1 hst hsm
      have m1' := m1
      rw [hlN] at m1'
      have p0 := m1'.cell 0 (v := .slice (some ⟨g, 0, none⟩) N c) rfl
      have z1 := m2.row.frozen (g := g) rfl (k * 3 + 1)
      have b0 : (0 : Int) ≤ (k : Int) := by omega
      have b1 : (k : Int) < (N : Int) := by omega
      have hne : p ≠ g := fun e => own_ne_ty m2.row m1 (by decide) (by rw [← e]; rfl)
      have hgF := m2.foot g rfl
      have hgw := H.out.1.lt g hgF
      have hpw := m1.lt
      obtain ⟨yn, hyn⟩ : ∃ n, yh.length = n := ⟨_, rfl⟩
      rw [hyn] at q0
      by_cases hvs : vs = 2
      · subst hvs
        have HX := Lib.hid (And.intro (hsm (by simp)) (And.intro (hs0 (by simp)) hkq.out)); clear hs0 hs1 hkq hsm hst hx hxk hv hgd ho m1 m1' m2 m3 m5 hlN hy hyn
        go_wp2_with fail
        go_roundg (N - (k + 1))
        case measure => omega
        case rel => exact ⟨k + 1, m, OA, oc, by omega, rfl, by go_num, rfl, by omega, ⟨by rw [HX.out.1]; obtain ⟨l5, k1, k2, k3⟩ := HX.out.2.2.1; exact ⟨l5, k1.alloc _, k2.alloc _, k3⟩, by rw [HX.out.2.1]; exact HX.out.2.2.2.1.alloc _, by rw [HX.out.2.1]; exact HX.out.2.2.2.2⟩, hT.alloc _⟩
      · have d2 : (vs != 2) = true := by simpa using hvs
        rw [d2] at hs0 hs1 hst hsm
        cases v with
        | true =>
          have hst1 := hst rfl
          have hsn := hs0 rfl
          have hset := (m2.setSt hy (by decide) 1 (by unfold I64; omega)).alloc (.cells #[.slice YA yn yc, .int .i64 vs, .bool vb] 104)
          have hits := its_set l k ⟨YA, yc, yh, vs, vb⟩ ⟨YA, yc, yh, 1, vb⟩ (It.setst 1) hy rfl
          have hbl2 := (m1'.far (p := ⟨g, k * 3 + 1, none⟩) hne (.int .i64 1)).alloc (.cells #[.slice YA yn yc, .int .i64 vs, .bool vb] 104)
          have hln : (l.set k ⟨YA, yc, yh, 1, vb⟩).length = N := by rw [List.length_set]; exact hlN
          rw [m5, ← hst1] at hits
          have hout := (hkq.out.2.1.setCell ⟨g, k * 3 + 1, none⟩ (.int .i64 1) (fun e => by have := (hkq.out.2.1.lt _ e).1; simp only at this; omega)).alloc (.cells #[.slice YA yn yc, .int .i64 vs, .bool vb] 104)
          have HX := Lib.hid (And.intro hset (And.intro hbl2 (And.intro hln (And.intro hits (And.intro hout (And.intro hsn (And.intro hkq.out.2.2 m3)))))))
          clear hset hits hbl2 hln hout hsn hst1 hst hsm hs0 hs1 hkq m1 m1' m2 m3 m5 hlN hy hx hxk hv hgd ho hyn
          go_wp2_with fail
          go_roundg (N - (k + 1))
          case measure => omega
          case rel => exact ⟨k + 1, m, OA, oc, by omega, rfl, by go_num, rfl, by omega, ⟨⟨_, by rw [HX.out.2.2.1]; exact HX.out.2.1, HX.out.1, HX.out.2.2.2.2.2.2.2, m4, HX.out.2.2.2.1⟩, by rw [HX.out.2.2.2.2.2.1]; exact HX.out.2.2.2.2.1, by rw [HX.out.2.2.2.2.2.1]; exact HX.out.2.2.2.2.2.2.1⟩, (hT.setCell (p := ⟨g, k * 3 + 1, none⟩) hgF _).alloc _⟩
        | false =>
          have HX := Lib.hid (And.intro (hsm rfl) (And.intro (hs1 rfl) hkq.out)); clear hs0 hs1 hkq hsm hst hx hxk hv hgd ho m1 m1' m2 m3 m5 hlN hy hyn
          go_wp2_with (at_builtin; go_must (refine wpList_app (α := Int) (n := m) (m := 1) (B := wr.heap.size + 1 + 1) (r := [(k : Int)]) rfl (.tmp 112) (.tmp 114) _ rfl w2.heap.size 3 ti _ 8 Try.underlying47 hti hz0 hz1 hz2 rfl (by decide) int_one (by rfl) HX.out.2.2.2.2 ((HX.out.2.2.2.1.alloc _).alloc _) (by rfl) ?_ rfl (by omega) (by simp only [maxLen]; omega) (by simp; omega) ?_))
          · have := At.built (wr.alloc (.cells #[.slice YA yn yc, .int .i64 vs, .bool vb] 104)) #[.int .i64 (k : Int)] 3 [(k : Int)] rfl (by intro z hz; simp at hz; subst hz; exact (by unfold I64; omega : I64 (k : Int)))
            simpa using this
          intro A5 c5 w5 ho5 hgr5 hat5
          have hb5 : Below w2.heap.size wr w5 := (((Below.refl w2.heap.size wr).alloc hsT _).alloc (by simp; omega) _).grown hgr5 (by simp; omega) (fun g hg => (HX.out.2.2.2.1.lt g hg).1)
          have hT5 : Touch (fun g => w2.heap.size ≤ g) wr w5 := ⟨hb5.os, hb5.tape, hb5.output, (by have := hgr5.size; simp at this; omega), fun g _ hn => hb5.block g (by omega)⟩
          have hTF : Touch F w2 w5 := ⟨hb5.os.trans hT.os, hb5.tape.trans hT.tape, hb5.output.trans hT.output, Nat.le_trans hsT hT5.size, fun g hg hn => (hb5.block g hg).trans (hT.block g hg hn)⟩
          obtain ⟨l5, k1, k2, k3, k4, k5⟩ := HX.out.2.2.1
          have hFd : ∀ g, F g → ¬ w2.heap.size ≤ g := fun g hf => by have := H.out.1.lt g hf; omega
          have HM : MdlA w5 base F p nu kind mk (some ⟨g, 0, none⟩) c (stayK [0, 1] (needed s) k s) := ⟨l5, k1.touch hT5 (hFd p k3), k2.touch hT5 hFd, k3, k4, k5⟩
          have HY := Lib.hid (And.intro HM (And.intro ho5 hTF)); clear HM ho5 k1 k2 k3 k5 hTF hT5 hb5 hgr5 hat5
          go_wp2_with fail
          go_roundg (N - (k + 1))
          case measure => omega
          case rel => exact ⟨k + 1, m + 1, A5, c5, by omega, rfl, by go_num, rfl, by omega, ⟨by rw [HX.out.1]; exact HY.out.1, by rw [HX.out.2.1]; exact HY.out.2.1, by rw [HX.out.2.1, List.length_append, HX.out.2.2.2.2]; rfl⟩, HY.out.2.2⟩
    · obtain rfl : N = k := by omega
      obtain ⟨f1, f2, f3⟩ := hkq.out
      rw [← H.out.2.2, stayK_all] at f1
      rw [List.take_of_length_le (by rw [outB_length]; have := H.out.2.2; omega)] at f2 f3
      have HX := Lib.hid (And.intro f1 (And.intro (show Own wr w2.heap.size 3 OA oc (outL [0, 1] (needed s) s) from f2) (show (outL [0, 1] (needed s) s).length = m from f3))); clear f1 f2 f3 hkq
      go_wp2_with fail
      refine (gone_any wr base w2.heap.size p m oc F nu kind 2 mk (stayL [0, 1] (needed s) s) OA (outL [0, 1] (needed s) s) ⟨A, c, HX.out.1⟩ HX.out.2.1 (fun g hg hf => by have h1 := (HX.out.2.1.lt g hg).1; have h2 := H.out.1.lt g hf; omega) (fun x hx => by rw [stayL_length]; exact outL_in _ _ _ x hx) HX.out.2.2 (by rw [stayL_length]; exact H.out.1.inv.small) (fun x hx => by
        obtain ⟨i, hi⟩ := List.mem_iff_getElem?.1 hx
        have hil : i < s.length := by rw [← stayL_length [0, 1] (needed s) s]; exact (List.getElem?_eq_some_iff.1 hi).1
        rw [stayL_get [0, 1] (needed s) s i (List.getElem?_eq_getElem hil)] at hi
        injection hi with hi
        have := H.out.1.inv.long _ (List.getElem_mem hil)
        rw [← hi]; unfold stayX; split <;> exact this) (by unfold I64; omega)).mono ?_
      rintro e w5 ⟨rfl, k1, k2⟩
      have HY := Lib.hid (And.intro k1 ((Touch.ofBelow (F := F) HO.out.2.2.1).trans (hT.trans k2))); clear k1 k2
      go_wp2_with fail
      rw [← HP.out]
      exact MdPost.same H.out.2.1 (by unfold majorN; rw [HX.out.2.2]; rfl) HY.out.1 HY.out.2

theorem rgens_any (w : World) (base p : Nat) (F : Nat → Prop) (nu kind dd a b n : Int) (mk : Bool) (s : List It) (h : Mdl w base F p nu kind mk s) (hi : GInv s) (hF : ∀ g, F g → g < w.heap.size) (hd : I64 a ∧ I64 b ∧ I64 n) :
    Calls Try.prog 88 #[.pointer (some ⟨p, 0, none⟩), .agg #[.int .i64 dd, .int .i64 a, .int .i64 b, .int .i64 n]] w (MdPost base p F nu kind w (rM nu mk s ⟨dd, a, b, n⟩)) := by
  have H := GePre.mk_ (dd := dd) h hi hF hd
  by_cases h1 : dd = 1
  · subst h1; exact gens1 w _ base p F nu kind a b n mk s H
  by_cases h2 : dd = 2
  · subst h2; exact gens2 w _ base p F nu kind a b n mk s H
  by_cases h4 : dd = 4
  · exact gens43 w _ base p F nu kind dd a b n mk s H (.inl h4)
  by_cases h3 : dd = 3
  · exact gens43 w _ base p F nu kind dd a b n mk s H (.inr h3)
  by_cases h6 : dd = 6
  · subst h6; exact gens6 w _ base p F nu kind a b n mk s H
  by_cases h7 : dd = 7
  · subst h7; exact gens7 w _ base p F nu kind a b n mk s H
  exact gensX w _ base p F nu kind dd a b n mk s H h1 h2 h4 h3 h6 h7

end Go.Proofs.Ytpkccpegdpodoaa

/- R.Model: Barrier. -/
namespace Go.Proofs.Ytpkccpegdpodoaa
open Go.RowKit

attribute [local go_sem ↓] Go.wp_at_zero Go.wp_at_succ

def hasYg (s : List It) (n : Nat) : Bool := match s[n]? with | some x => x.has.any (isYg s) | none => false
theorem hasYg_get {s : List It} {n : Nat} {x : It} (h : s[n]? = some x) : hasYg s n = x.has.any (isYg s) := by unfold hasYg; rw [h]
theorem are_filter_bar (s : List It) : (are s 1).filter (fun z => hasYg s z.toNat) = barI s := by
  unfold are barI
  rw [rising_filter (fun n => hasYg s n)]
  congr 1
  apply List.ext_getElem?; intro i
  rw [List.getElem?_mapIdx, List.getElem?_map, List.getElem?_map]
  cases hs : s[i]? with
  | none => rfl
  | some x =>
    simp only [Option.map_some]
    rw [hasYg_get hs]
    unfold barX
    congr 1
theorem any_snocG (p : Int → Bool) (l : List Int) (k : Nat) (x : Int) (h : l[k]? = some x) : (l.take (k + 1)).any p = ((l.take k).any p || p x) := by
  rw [List.take_add_one, h]; simp

set_option maxHeartbeats 3200000 in
set_option maxRecDepth 100000 in
theorem rbarrier_any (w : World) (base p : Nat) (F : Nat → Prop) (nu kind : Int) (mk : Bool) (s : List It) (h : Mdl w base F p nu kind mk s) (hi : GInv s) :
    Calls Try.prog 92 #[.pointer (some ⟨p, 0, none⟩)] w fun e w' => ∃ A c, e = .returned (.slice A (barI s).length c) ∧ Own w' w.heap.size 3 A c (barI s) ∧ Below w.heap.size w w' := by
  obtain ⟨ti, hti, hz0, hz1, hz2⟩ := info_parts infoInt
  obtain ⟨N, hN⟩ : ∃ N, s.length = N := ⟨_, rfl⟩
  have hN100 : N ≤ 100 := by have := hi.small; omega
  obtain ⟨A, c, hA⟩ := h
  have H := Lib.hid (And.intro hA (And.intro hi hN)); clear hA hi hN
  go_enter Try.func92, Try.ntmps92
  go_wp2_with fail
  refine (are_any w base p F nu kind 1 mk s ⟨A, c, H.out.1⟩ H.out.2.1.small).mono ?_
  rintro e w1 ⟨RA, rc, rfl, ho1, hb1⟩
  have hs1 := hb1.size
  obtain ⟨q, hq⟩ : ∃ q, (are s 1).length = q := ⟨_, rfl⟩
  rw [hq]
  have hq100 : q ≤ 100 := by have := are_len s 1; have := H.out.2.2; omega
  have HR := Lib.hid (And.intro ho1 (And.intro hq (And.intro hb1 (H.out.1.fresh hb1)))); clear ho1 hq hb1
  go_wp2_with fail
  go_loopg [3, 12] q (fun gk ov iv wr => ∃ (k m : Nat) (OA : Option Addr) (oc : Nat), k ≤ q ∧ gk = q - k ∧ iv = .int .i64 k ∧ ov = .slice OA m oc ∧ m ≤ k ∧ Hid (Own wr w1.heap.size 3 OA oc (((are s 1).take k).filter fun z => hasYg s z.toNat) ∧ (((are s 1).take k).filter fun z => hasYg s z.toNat).length = m) ∧ Below w1.heap.size w1 wr)
  case atStart => exact ⟨0, 0, none, 0, Nat.zero_le _, rfl, rfl, rfl, Nat.le_refl _, ⟨Own.nil_, rfl⟩, Below.refl _ _⟩
  case round =>
    obtain ⟨k, m, OA, oc, hk, rfl, rfl, rfl, hm, hkq, hbl⟩ := hrel
    have hsT := hbl.size
    by_cases hlt : k < q
    · obtain ⟨z, hz⟩ : ∃ z, (are s 1)[k]? = some z := ⟨_, List.getElem?_eq_getElem (by have := HR.out.2.1; omega)⟩
      obtain ⟨n, rfl, hn0⟩ := are_mem (List.mem_of_getElem? hz)
      have hnN : n < N := by have := stAt_lt hn0; have := H.out.2.2; omega
      have ho := HR.out.1.fresh hbl
      obtain ⟨gr, rfl, _, _⟩ := ho.some_ (by have := HR.out.2.1; omega)
      have z0 := ho.cell_int hz
      obtain ⟨x, hx⟩ : ∃ x, s[n]? = some x := ⟨_, List.getElem?_eq_getElem (by have := H.out.2.2; omega)⟩
      have hA1 := HR.out.2.2.2.fresh hbl
      obtain ⟨g, XA, xc, rfl, e0, -, -, e3, -, -, -, -⟩ := hA1.get hx
      have p0 := hA1.top.1
      rw [H.out.2.2] at p0
      have f1 := filter_snocM (are s 1) (fun z => hasYg s z.toNat) k _ hz
      simp only [Int.toNat_natCast, hasYg_get hx] at f1
      obtain ⟨xh, xs, xb⟩ := x
      simp only at e0 e3 f1
      obtain ⟨xn, hxn⟩ : ∃ n, xh.length = n := ⟨_, rfl⟩
      rw [hxn] at e0
      have hx10 : xn ≤ 10 := by have := H.out.2.1.long _ (List.mem_of_getElem? hx); simp only at this; omega
      have b0 : (0 : Int) ≤ (k : Int) := by omega
      have b1 : (k : Int) < (q : Int) := by omega
      have n0 : (0 : Int) ≤ (n : Int) := by omega
      have n1 : (n : Int) < (N : Int) := by omega
      have HX := Lib.hid (And.intro f1 (And.intro hkq.out (And.intro hx (And.intro e3 (And.intro hxn hA1))))); clear f1 hkq hx e3 hxn hA1 ho hz
      obtain ⟨wo, rfl⟩ : ∃ wo : World, wo = wr := ⟨_, rfl⟩
      go_wp2_with fail
      go_loopg [6, 25] xn (fun gj yv jv wj => ∃ (j : Nat) (y : Bool), j ≤ xn ∧ gj = xn - j ∧ jv = .int .i64 j ∧ yv = .bool y ∧ Hid ((xh.take j).any (isYg s) = y) ∧ wo = wj)
      case atStart => exact ⟨0, false, Nat.zero_le _, rfl, rfl, rfl, (by simp [Hid]), rfl⟩
      case round =>
        obtain ⟨j, y, hj, rfl, rfl, rfl, hy, rfl⟩ := hrel
        by_cases hlt3 : j < xn
        · obtain ⟨z, hz⟩ : ∃ z, xh[j]? = some z := ⟨_, List.getElem?_eq_getElem (by have := HX.out.2.2.2.2.1; omega)⟩
          obtain ⟨gx, rfl, _, _⟩ := HX.out.2.2.2.1.some_ (by have := HX.out.2.2.2.2.1; omega)
          have y0 := HX.out.2.2.2.1.cell_int hz
          have hsn := any_snocG (isYg s) xh j z hz
          rw [hy.out] at hsn
          have j0 : (0 : Int) ≤ (j : Int) := by omega
          have j1 : (j : Int) < (xn : Int) := by omega
          have hrf := H.out.2.1.refs _ (List.mem_of_getElem? HX.out.2.2.1) z (List.mem_of_getElem? hz)
          cases y with
          | true =>
            rw [Bool.true_or] at hsn
            have HS := Lib.hid hsn; clear hsn hz hrf hy
            go_wp2_with fail
            go_roundg (xn - (j + 1))
            case measure => omega
            case rel => exact ⟨j + 1, true, by omega, rfl, by go_num, rfl, HS.out, rfl⟩
          | false =>
            rw [Bool.false_or] at hsn
            rcases hrf with rfl | ⟨t, rfl, htl, -⟩
            · have e0 : isYg s (-1) = false := by unfold isYg; rfl
              rw [e0] at hsn
              have HS := Lib.hid hsn; clear hsn hz hy e0
              go_wp2_with fail
              go_roundg (xn - (j + 1))
              case measure => omega
              case rel => exact ⟨j + 1, false, by omega, rfl, by go_num, rfl, HS.out, rfl⟩
            · obtain ⟨yy, hyy⟩ : ∃ y, s[t]? = some y := ⟨_, List.getElem?_eq_getElem htl⟩
              obtain ⟨g', YA, yc, hgg, -, r1, -, -, -, -, -, -⟩ := HX.out.2.2.2.2.2.get hyy
              injection hgg with hgg; injection hgg with hgg; subst hgg
              have hst : stAt s t = some yy.st := stAt_get hyy
              obtain ⟨vk, hvk⟩ : ∃ vk, yy.st = vk := ⟨_, rfl⟩
              rw [hvk] at r1 hst
              have e0 : isYg s (t : Int) = (vk == 0) := by
                unfold isYg
                rw [decide_eq_true (show (0 : Int) ≤ (t : Int) by omega), Int.toNat_natCast, hst]
                by_cases hz : vk = 0
                · simp [hz]
                · have hz2 : (vk == 0) = false := by simpa using hz
                  rw [hz2, decide_eq_false (by simpa using hz)]; rfl
              rw [e0] at hsn
              have t0 : (0 : Int) ≤ (t : Int) := by omega
              have t1 : (t : Int) < (N : Int) := by have := H.out.2.2; omega
              have tne : ((t : Int) != -1) = true := by first | (simp; done) | (simp; omega)
              have HS := Lib.hid hsn; clear hsn hz hy e0 hyy hvk hst
              go_wp2_with fail
              go_roundg (xn - (j + 1))
              case measure => omega
              case rel => exact ⟨j + 1, (vk == 0), by omega, rfl, by go_num, rfl, HS.out, rfl⟩
        · obtain rfl : xn = j := by omega
          have hfin := hy.out
          rw [List.take_of_length_le (by have := HX.out.2.2.2.2.1; omega)] at hfin
          have f1 := HX.out.1
          rw [hfin] at f1
          clear hy hfin
          cases y with
          | false =>
            rw [if_neg (by simp), List.append_nil] at f1
            have HF := Lib.hid f1; clear f1
            go_wp2_with fail
            go_roundg (q - (k + 1))
            case measure => omega
            case rel => exact ⟨k + 1, m, OA, oc, by omega, rfl, by go_num, rfl, by omega, ⟨by rw [HF.out]; exact HX.out.2.1.1, by rw [HF.out]; exact HX.out.2.1.2⟩, hbl⟩
          | true =>
            rw [if_pos rfl] at f1
            have HF := Lib.hid f1; clear f1
            go_wp2_with (at_builtin; go_must (refine wpList_app (α := Int) (n := m) (m := 1) (B := wo.heap.size + 1) (r := [(n : Int)]) rfl (.tmp 47) (.tmp 49) _ rfl w1.heap.size 3 ti _ 8 Try.underlying47 hti hz0 hz1 hz2 rfl (by decide) int_one (by rfl) HX.out.2.1.2 (HX.out.2.1.1.alloc _) (by rfl) (At.built wo _ _ [(n : Int)] rfl (by intro z hz; simp at hz; subst hz; exact (by unfold I64; omega : I64 (n : Int)))) rfl (by omega) (by simp only [maxLen]; omega) (by simp; omega) ?_); intro A5 c5 w5 ho5 hgr5 hat5)
            have hb5 : Below w1.heap.size w1 w5 := (hbl.alloc hsT _).grown hgr5 (by simp; omega) (fun g hg => (HX.out.2.1.1.lt g hg).1)
            have HY := Lib.hid (And.intro ho5 hb5); clear ho5 hb5 hgr5 hat5
            go_wp2_with fail
            go_roundg (q - (k + 1))
            case measure => omega
            case rel => exact ⟨k + 1, m + 1, A5, c5, by omega, rfl, by go_num, rfl, by omega, ⟨by rw [HF.out]; exact HY.out.1, by rw [HF.out, List.length_append, HX.out.2.1.2]; rfl⟩, HY.out.2⟩
    · obtain rfl : q = k := by omega
      obtain ⟨f2, f3⟩ := hkq.out
      rw [List.take_of_length_le (by have := HR.out.2.1; omega), are_filter_bar] at f2 f3
      have HX := Lib.hid (And.intro f2 f3); clear f2 f3 hkq
      go_wp2_with fail
      go_ret
      exact ⟨OA, oc, by rw [HX.out.2]; rfl, HX.out.1.base_le hs1, HR.out.2.2.1.trans (hbl.mono hs1)⟩

end Go.Proofs.Ytpkccpegdpodoaa

/- R.Model: Marks: the beginning, steps, the end. -/
namespace Go.Proofs.Ytpkccpegdpodoaa
open Go.RowKit

attribute [local go_sem ↓] Go.wp_at_zero Go.wp_at_succ

theorem marksI_six (kind : Int) (mk : Bool) (s : List It) (a b n : Int) : marksI kind mk s ⟨6, a, b, n⟩ = if mk = true then (0, 8, mk, s) else ((heldN s : Int), 0, true, beginI s) := by
  unfold marksI
  rw [if_neg (show ¬ (6 : Int) = 1 by decide), if_neg (show ¬ (6 : Int) = 2 by decide), if_neg (show ¬ ((6 : Int) = 4 ∨ (6 : Int) = 3) by decide), if_pos rfl]
theorem marksI_five (kind : Int) (mk : Bool) (s : List It) (a b n : Int) : marksI kind mk s ⟨5, a, b, n⟩ = if mk = false then (0, 8, mk, s) else if n < 0 then (0, 1, mk, s) else (((stepsI n.toNat s).2 : Int), 0, mk, (stepsI n.toNat s).1) := by
  unfold marksI
  rw [if_neg (show ¬ (5 : Int) = 1 by decide), if_neg (show ¬ (5 : Int) = 2 by decide), if_neg (show ¬ ((5 : Int) = 4 ∨ (5 : Int) = 3) by decide), if_neg (show ¬ (5 : Int) = 6 by decide), if_pos rfl]
theorem marksI_seven (kind : Int) (mk : Bool) (s : List It) (a b n : Int) : marksI kind mk s ⟨7, a, b, n⟩ = if mk = false then (0, 8, mk, s) else ((endN s : Int), 0, false, endI s) := by
  unfold marksI
  rw [if_neg (show ¬ (7 : Int) = 1 by decide), if_neg (show ¬ (7 : Int) = 2 by decide), if_neg (show ¬ ((7 : Int) = 4 ∨ (7 : Int) = 3) by decide), if_neg (show ¬ (7 : Int) = 6 by decide), if_neg (show ¬ (7 : Int) = 5 by decide), if_pos rfl]

theorem Mdl.mkcell {w : World} {base p : Nat} {F : Nat → Prop} {nu kind : Int} {mk : Bool} {s : List It} (h : Mdl w base F p nu kind mk s) : w.cell? ⟨p, 3, none⟩ = some (.bool mk) ∧ w.frozen? ⟨p, 3, none⟩ = false ∧ p < w.heap.size ∧ F p ∧ base ≤ p := by
  obtain ⟨A, c, l, h1, h2, h3, h4, h5⟩ := h
  exact ⟨h1.cell 3 rfl, h1.frozen 3, h1.lt, h3, h4⟩
theorem Mdl.setmk {w : World} {base p : Nat} {F : Nat → Prop} {nu kind : Int} {mk : Bool} {s : List It} (h : Mdl w base F p nu kind mk s) (b : Bool) : Mdl (w.setCell ⟨p, 3, none⟩ (.bool b)) base F p nu kind b s := by
  obtain ⟨A, c, l, h1, h2, h3, h4, h5⟩ := h
  exact ⟨A, c, l, h1.set_ 3 _, h2.far_blk h1 (by decide) (by decide) _ _, h3, h4, h5⟩
/-- a thing as it lies in a model -/
theorem Mdl.get {w : World} {base p : Nat} {F : Nat → Prop} {nu kind : Int} {mk : Bool} {s : List It} (h : Mdl w base F p nu kind mk s) {n : Nat} {x : It} (hx : s[n]? = some x) :
    ∃ (g c : Nat) (v : Value), w.cell? ⟨p, 0, none⟩ = some (.slice (some ⟨g, 0, none⟩) s.length c) ∧ w.cell? ⟨g, n * 3, none⟩ = some v ∧ w.cell? ⟨g, n * 3 + 1, none⟩ = some (.int .i64 x.st) ∧ w.cell? ⟨g, n * 3 + 2, none⟩ = some (.bool x.held) ∧ w.frozen? ⟨g, n * 3 + 1, none⟩ = false ∧ F g ∧
      (∀ u, I64 u → Mdl (w.setCell ⟨g, n * 3 + 1, none⟩ (.int .i64 u)) base F p nu kind mk (s.modify n (It.setst u)) ∧ IntKeep w (w.setCell ⟨g, n * 3 + 1, none⟩ (.int .i64 u))) := by
  obtain ⟨A, c, l, h1, h2, h3, h4, h5⟩ := h
  have hl : l.length = s.length := by rw [← h5, its_length]
  rw [← h5] at hx
  obtain ⟨y, hy, rfl⟩ := get_its hx
  obtain ⟨g, rfl, hg1, hg2, q0, q1, q2⟩ := h2.cells hy
  have hne : p ≠ g := fun e => own_ne_ty h2.row h1 (by decide) (by rw [← e]; rfl)
  refine ⟨g, c, _, by rw [← hl]; exact h1.cell 0 rfl, q0, q1, q2, h2.row.frozen rfl _, h2.foot g rfl, fun u hu => ⟨⟨_, c, _, by rw [List.length_set]; exact h1.far (p := ⟨g, n * 3 + 1, none⟩) hne _, h2.setSt hy (by decide) u hu, h3, h4, ?_⟩, IntKeep.set h2.row (by decide) _ _⟩⟩
  rw [its_set l n y { y with st := u } (It.setst u) hy rfl, h5]

set_option maxHeartbeats 1600000 in
set_option maxRecDepth 100000 in
theorem marks6 (w W : World) (base p : Nat) (F : Nat → Prop) (nu kind a b n : Int) (mk : Bool) (s : List It) (h : MdPre w W base p F nu kind 6 a b n mk s) :
    Calls Try.prog 53 #[.pointer (some ⟨p, 0, none⟩), .agg #[.int .i64 6, .int .i64 a, .int .i64 b, .int .i64 n]] w (MdPost base p F nu kind w (marksI kind mk s ⟨6, a, b, n⟩)) := by
  obtain ⟨P, hP⟩ : ∃ P, MdPost base p F nu kind w (marksI kind mk s ⟨6, a, b, n⟩) = P := ⟨_, rfl⟩
  have HP := Lib.hid hP
  rw [hP]; clear hP
  have hsz := h.siz
  have hr := marksI_six kind mk s a b n
  have H := Lib.hid h; clear h
  obtain ⟨y3, yf, hpW, hpF, hpb⟩ := H.out.st.mkcell
  have hplt : p < w.heap.size := H.out.lt p hpF
  have y3' : w.cell? ⟨p, 3, none⟩ = some (.bool mk) := by
    have := y3; rw [H.out.eq, World.cell?_alloc_lt _ _ _ hplt] at this; exact this
  have hs100 := H.out.inv.small
  obtain ⟨N, hN⟩ : ∃ N, s.length = N := ⟨_, rfl⟩
  have p0 : ∃ A c, w.cell? ⟨p, 0, none⟩ = some (.slice A N c) := by
    obtain ⟨A, c, l, h1, -, -, -, h5⟩ := H.out.st
    have h2 := h1.cell 0 (v := .slice A l.length c) rfl
    rw [H.out.eq, World.cell?_alloc_lt _ _ _ hplt, ← its_length l, h5, hN] at h2
    exact ⟨A, c, h2⟩
  obtain ⟨A0, c0, p0⟩ := p0
  rw [hN] at hs100
  have HN := Lib.hid hN; clear hN y3 yf
  cases mk with
  | true =>
    rw [if_pos rfl] at hr
    have HR := Lib.hid hr; clear hr
    go_enter Try.func53, Try.ntmps53
    go_wp2_with fail
    rw [← HP.out, ← H.out.eq]
    exact MdPost.same HR.out rfl H.out.st (Touch.ofBelow H.out.bel)
  | false =>
    rw [if_neg (by simp)] at hr
    have HR := Lib.hid hr; clear hr
    have zf : w.frozen? ⟨p, 3, none⟩ = false := by
      obtain ⟨-, z, -⟩ := H.out.st.mkcell
      rw [H.out.eq] at z
      have : (w.alloc (.cells #[.int .i64 6, .int .i64 a, .int .i64 b, .int .i64 n] 97)).frozen? ⟨p, 3, none⟩ = w.frozen? ⟨p, 3, none⟩ := ((Below.refl w.heap.size w).alloc (Nat.le_refl _) _).frozen (p := ⟨p, 3, none⟩) hplt
      rw [this] at z; exact z
    have hM1 := H.out.st.setmk true
    have hT1 : Touch F w (W.setCell ⟨p, 3, none⟩ (.bool true)) := (Touch.ofBelow H.out.bel).setCell hpF _
    rw [← beginK_zero s, H.out.eq] at hM1
    rw [H.out.eq] at hT1
    rw [World.setCell_alloc_past _ _ _ _ hplt] at hM1 hT1
    have HM := Lib.hid (And.intro hM1 hT1); clear hM1 hT1
    go_enter Try.func53, Try.ntmps53
    go_wp2_with fail
    clear p0 y3' zf
    go_loopg [9, 130] N (fun gk mv iv wr => ∃ (k m : Nat), k ≤ N ∧ gk = N - k ∧ iv = .int .i64 k ∧ mv = .int .i64 m ∧ m ≤ k ∧ Hid (Mdl wr base F p nu kind true (beginK k s) ∧ heldN (s.take k) = m) ∧ Touch F w wr)
    case atStart => exact ⟨0, 0, Nat.zero_le _, rfl, rfl, rfl, Nat.le_refl _, ⟨HM.out.1, rfl⟩, HM.out.2⟩
    case round =>
      obtain ⟨k, m, hk, rfl, rfl, rfl, hm, hkeep, hT⟩ := hrel
      by_cases hlt : k < N
      · obtain ⟨x, hsx⟩ : ∃ x, s[k]? = some x := ⟨_, List.getElem?_eq_getElem (by have := HN.out; omega)⟩
        have hbk := beginK_get k s k hsx
        rw [if_neg (by omega)] at hbk
        obtain ⟨g, c, v, q0, u0, u1, u2, -⟩ := hkeep.out.1.get hbk
        rw [beginK_length, HN.out] at q0
        have hst := beginK_step k s hsx
        have hhn := heldN_step s k hsx
        have b0 : (0 : Int) ≤ (k : Int) := by omega
        have b1 : (k : Int) < (N : Int) := by omega
        obtain ⟨xb, hxb⟩ : ∃ b, x.held = b := ⟨_, rfl⟩
        rw [hxb] at u2 hst hhn
        have HX := Lib.hid (And.intro hst (And.intro hhn hkeep.out)); clear hst hhn hkeep hsx hbk hxb
        cases xb with
        | false =>
          go_wp2_with fail
          go_roundg (N - (k + 1))
          case measure => omega
          case rel => exact ⟨k + 1, m, by omega, rfl, by go_num, rfl, by omega, ⟨by rw [HX.out.1]; exact HX.out.2.2.1, by rw [HX.out.2.1, HX.out.2.2.2]; rfl⟩, hT⟩
        | true =>
          go_wp2_with fail
          refine (rshade_any wr base p F nu kind (k : Int) true (beginK k s) HX.out.2.2.1 (.inr ⟨k, rfl, by rw [beginK_length, HN.out]; exact hlt⟩) (by rw [beginK_length, HN.out]; omega)).mono ?_
          rintro e w5 ⟨rfl, h5a, h5b, h5c, h5d⟩
          have HF := Lib.hid (And.intro h5a (hT.trans h5b)); clear h5a h5b h5c h5d u0 u1 u2 q0
          go_wp2_with fail
          go_roundg (N - (k + 1))
          case measure => omega
          case rel => exact ⟨k + 1, m + 1, by omega, rfl, by go_num, by go_num, by omega, ⟨by rw [HX.out.1]; exact HF.out.1, by rw [HX.out.2.1, HX.out.2.2.2]; rfl⟩, HF.out.2⟩
      · obtain rfl : N = k := by omega
        have hf1 := hkeep.out.1
        have hf2 := hkeep.out.2
        rw [List.take_of_length_le (by have := HN.out; omega)] at hf2
        rw [← HN.out, beginK_all] at hf1
        have HF := Lib.hid (And.intro hf1 hf2); clear hf1 hf2 hkeep
        go_wp2_with fail
        rw [← HP.out]
        exact MdPost.same HR.out (by rw [HF.out.2]; rfl) HF.out.1 hT

end Go.Proofs.Ytpkccpegdpodoaa

/- R.Model: Marks: steps, the end. -/
namespace Go.Proofs.Ytpkccpegdpodoaa
open Go.RowKit

attribute [local go_sem ↓] Go.wp_at_zero Go.wp_at_succ

theorem MdPre.mk3 {w W : World} {base p : Nat} {F : Nat → Prop} {nu kind dd a b n : Int} {mk : Bool} {s : List It} (h : MdPre w W base p F nu kind dd a b n mk s) : w.cell? ⟨p, 3, none⟩ = some (.bool mk) ∧ p < w.heap.size := by
  obtain ⟨y3, yf, hpW, hpF, hpb⟩ := h.st.mkcell
  have hplt : p < w.heap.size := h.lt p hpF
  rw [h.eq, World.cell?_alloc_lt _ _ _ hplt] at y3
  exact ⟨y3, hplt⟩

set_option maxHeartbeats 1600000 in
set_option maxRecDepth 100000 in
theorem marks5 (w W : World) (base p : Nat) (F : Nat → Prop) (nu kind a b n : Int) (mk : Bool) (s : List It) (h : MdPre w W base p F nu kind 5 a b n mk s) :
    Calls Try.prog 53 #[.pointer (some ⟨p, 0, none⟩), .agg #[.int .i64 5, .int .i64 a, .int .i64 b, .int .i64 n]] w (MdPost base p F nu kind w (marksI kind mk s ⟨5, a, b, n⟩)) := by
  obtain ⟨P, hP⟩ : ∃ P, MdPost base p F nu kind w (marksI kind mk s ⟨5, a, b, n⟩) = P := ⟨_, rfl⟩
  have HP := Lib.hid hP
  rw [hP]; clear hP
  have hsz := h.siz
  have hr := marksI_five kind mk s a b n
  obtain ⟨y3, hplt⟩ := h.mk3
  have hnD : ¬ F w.heap.size := fun e => by have := h.lt _ e; omega
  have H := Lib.hid h; clear h
  cases mk with
  | false =>
    rw [if_pos rfl] at hr
    have HR := Lib.hid hr; clear hr
    go_enter Try.func53, Try.ntmps53
    go_wp2_with fail
    rw [← HP.out, ← H.out.eq]
    exact MdPost.same HR.out rfl H.out.st (Touch.ofBelow H.out.bel)
  | true =>
    rw [if_neg (by simp)] at hr
    by_cases hn : n < 0
    · rw [if_pos hn] at hr
      have HR := Lib.hid hr; clear hr
      go_enter Try.func53, Try.ntmps53
      go_wp2_with fail
      rw [← HP.out, ← H.out.eq]
      exact MdPost.same HR.out rfl H.out.st (Touch.ofBelow H.out.bel)
    · rw [if_neg hn] at hr
      obtain ⟨j, rfl⟩ : ∃ j : Nat, n = (j : Int) := ⟨n.toNat, by omega⟩
      rw [Int.toNat_natCast] at hr
      have hj9 : j ≤ 9223372036854775807 := by have := H.out.in_.2; omega
      have HR := Lib.hid hr; clear hr hn
      have hn0 : (0 : Int) ≤ (j : Int) := by omega
      go_enter Try.func53, Try.ntmps53
      go_wp2_with fail
      refine wp_world (fun V => W = V) H.out.eq ?_
      rintro V rfl
      clear y3
      go_loopg [11] (pot s) (fun gk mv wr => ∃ (k : Nat) (s1 : List It), k ≤ j ∧ mv = .int .i64 k ∧ gk = pot s1 ∧ Hid (Mdl wr base F p nu kind true s1 ∧ MInv kind true s1 ∧ (stepsI j s).1 = (stepsI (j - k) s1).1 ∧ (stepsI j s).2 = k + (stepsI (j - k) s1).2 ∧ Blk wr w.heap.size 97 #[.int .i64 5, .int .i64 a, .int .i64 b, .int .i64 (j : Int)]) ∧ Touch F w wr)
      case atStart => exact ⟨0, s, Nat.zero_le _, rfl, rfl, ⟨H.out.st, H.out.inv, rfl, by simp, H.out.blk⟩, Touch.ofBelow H.out.bel⟩
      case round =>
        obtain ⟨k, s1, hk, rfl, rfl, hkeep, hT⟩ := hrel
        have e3 := hkeep.out.2.2.2.2.cell 3 (v := .int .i64 (j : Int)) rfl
        by_cases hlt : k < j
        · have hlt2 : (k : Int) < (j : Int) := by omega
          by_cases hg : greyAt s1 < s1.length
          · have hstep := blacken_any wr base p F nu kind s1 hkeep.out.1 hkeep.out.2.1
            simp only [if_pos hg, decide_eq_true hg] at hstep
            have hpot := pot_step hg
            have hone := stepsI_one (j - (k + 1)) s1 hg
            have hnk : j - k = j - (k + 1) + 1 := by omega
            have hinv := hkeep.out.2.1.stepI hg
            obtain ⟨s2, hs2⟩ : ∃ s2, stepI s1 = s2 := ⟨_, rfl⟩
            rw [hs2] at hstep hpot hone hinv
            have e1 := hkeep.out.2.2.1
            have e2 := hkeep.out.2.2.2.1
            rw [hnk, hone] at e1 e2
            simp only at e1 e2
            have HS := Lib.hid (And.intro hstep (And.intro e1 (And.intro e2 (And.intro hinv hkeep.out.2.2.2.2)))); clear hstep hone hnk hs2 e1 e2 hg hinv hkeep
            go_wp2_with fail
            refine HS.out.1.mono ?_
            rintro e w5 ⟨rfl, h5a, h5b⟩
            have HF := Lib.hid (And.intro h5a (And.intro (hT.trans h5b) (HS.out.2.2.2.2.touch h5b hnD))); clear h5a h5b e3
            go_wp2_with fail
            go_roundg (pot s2)
            case measure => exact hpot
            case rel => exact ⟨k + 1, s2, by omega, by go_num, rfl, ⟨HF.out.1, HS.out.2.2.2.1, HS.out.2.1, by have := HS.out.2.2.1; omega, HF.out.2.2⟩, HF.out.2.1⟩
          · have hstep := blacken_any wr base p F nu kind s1 hkeep.out.1 hkeep.out.2.1
            simp only [if_neg hg, decide_eq_false hg] at hstep
            have hone := stepsI_none (j - k) s1 hg
            have e1 := hkeep.out.2.2.1
            have e2 := hkeep.out.2.2.2.1
            rw [hone] at e1 e2
            simp only [Nat.add_zero] at e1 e2
            have HS := Lib.hid (And.intro hstep (And.intro e1 e2)); clear hstep hone e1 e2 hg hkeep
            go_wp2_with fail
            refine HS.out.1.mono ?_
            rintro e w5 ⟨rfl, h5a, h5b⟩
            have HF := Lib.hid (And.intro h5a (hT.trans h5b)); clear h5a h5b
            go_wp2_with fail
            rw [← HP.out]
            exact MdPost.same HR.out (by rw [HS.out.2.2]; rfl) (by rw [HS.out.2.1]; exact HF.out.1) HF.out.2
        · obtain rfl : j = k := by omega
          have e1 := hkeep.out.2.2.1
          have e2 := hkeep.out.2.2.2.1
          rw [Nat.sub_self] at e1 e2
          simp only [stepsI, Nat.add_zero] at e1 e2
          have HF := Lib.hid (And.intro hkeep.out.1 (And.intro e1 e2)); clear e1 e2 hkeep
          go_wp2_with fail
          rw [← HP.out]
          exact MdPost.same HR.out (by rw [HF.out.2.2]; rfl) (by rw [HF.out.2.1]; exact HF.out.1) hT

set_option maxHeartbeats 3200000 in
set_option maxRecDepth 100000 in
theorem marks7 (w W : World) (base p : Nat) (F : Nat → Prop) (nu kind a b n : Int) (mk : Bool) (s : List It) (h : MdPre w W base p F nu kind 7 a b n mk s) :
    Calls Try.prog 53 #[.pointer (some ⟨p, 0, none⟩), .agg #[.int .i64 7, .int .i64 a, .int .i64 b, .int .i64 n]] w (MdPost base p F nu kind w (marksI kind mk s ⟨7, a, b, n⟩)) := by
  obtain ⟨P, hP⟩ : ∃ P, MdPost base p F nu kind w (marksI kind mk s ⟨7, a, b, n⟩) = P := ⟨_, rfl⟩
  have HP := Lib.hid hP
  rw [hP]; clear hP
  have hsz := h.siz
  have hr := marksI_seven kind mk s a b n
  obtain ⟨y3, hplt⟩ := h.mk3
  have H := Lib.hid h; clear h
  cases mk with
  | false =>
    rw [if_pos rfl] at hr
    have HR := Lib.hid hr; clear hr
    go_enter Try.func53, Try.ntmps53
    go_wp2_with fail
    rw [← HP.out, ← H.out.eq]
    exact MdPost.same HR.out rfl H.out.st (Touch.ofBelow H.out.bel)
  | true =>
    rw [if_neg (by simp)] at hr
    have HR := Lib.hid hr; clear hr
    go_enter Try.func53, Try.ntmps53
    go_wp2_with fail
    refine wp_world (fun V => W = V) H.out.eq ?_
    rintro V rfl
    clear y3
    go_loopg [] (pot s) (fun gk wr => ∃ (s1 : List It), gk = pot s1 ∧ Hid (Mdl wr base F p nu kind true s1 ∧ MInv kind true s1 ∧ (stepsI (pot s) s).1 = (stepsI (pot s1) s1).1) ∧ Touch F w wr)
    case atStart => exact ⟨s, rfl, ⟨H.out.st, H.out.inv, rfl⟩, Touch.ofBelow H.out.bel⟩
    case round =>
      obtain ⟨s1, rfl, hkeep, hT⟩ := hrel
      by_cases hg : greyAt s1 < s1.length
      · have hstep := blacken_any wr base p F nu kind s1 hkeep.out.1 hkeep.out.2.1
        simp only [if_pos hg, decide_eq_true hg] at hstep
        have hpot := pot_step hg
        have hone := stepsAll_step hg
        have hinv := hkeep.out.2.1.stepI hg
        obtain ⟨s2, hs2⟩ : ∃ s2, stepI s1 = s2 := ⟨_, rfl⟩
        rw [hs2] at hstep hpot hone hinv
        have HS := Lib.hid (And.intro hstep (And.intro (hkeep.out.2.2.trans hone) hinv)); clear hstep hone hs2 hg hinv hkeep
        go_wp2_with fail
        refine HS.out.1.mono ?_
        rintro e w5 ⟨rfl, h5a, h5b⟩
        have HF := Lib.hid (And.intro h5a (hT.trans h5b)); clear h5a h5b
        go_wp2_with fail
        go_roundg (pot s2)
        case measure => exact hpot
        case rel => exact ⟨s2, rfl, ⟨HF.out.1, HS.out.2.2, HS.out.2.1⟩, HF.out.2⟩
      · have hstep := blacken_any wr base p F nu kind s1 hkeep.out.1 hkeep.out.2.1
        simp only [if_neg hg, decide_eq_false hg] at hstep
        have hend : (stepsI (pot s) s).1 = s1 := hkeep.out.2.2.trans (stepsAll_none hg)
        have hswp := hkeep.out.2.1.sweep_eq hg
        have hs100 := hkeep.out.2.1.small
        have hs10 := hkeep.out.2.1.long
        have HS := Lib.hid (And.intro hstep (And.intro hend (And.intro hswp hs10))); clear hstep hend hg hkeep hswp hs10
        go_wp2_with fail
        refine HS.out.1.mono ?_
        rintro e w5 ⟨rfl, h5a, h5b⟩
        obtain ⟨y3, yf, hpw, hpF, hpb⟩ := h5a.mkcell
        have h6 := h5a.setmk false
        have hT6 := (hT.trans h5b).setCell (p := ⟨p, 3, none⟩) hpF (.bool false)
        have HF := Lib.hid (And.intro h6 hT6); clear h6 hT6 h5a h5b hT
        go_wp2_with fail
        refine calls_world (fun V => Mdl V base F p nu kind false s1 ∧ Touch F w V) ⟨HF.out.1, HF.out.2⟩ ?_
        rintro V ⟨v1, v2⟩
        clear y3 yf hpw
        refine (are_any V base p F nu kind 0 false s1 v1 hs100).mono ?_
        rintro e w7 ⟨LA, lc, rfl, ho7, hb7⟩
        have hs7 := hb7.size
        have HV := Lib.hid (And.intro (v1.fresh hb7) (And.intro (v2.fresh hb7) (And.intro ho7 v2.size))); clear v1 v2 ho7 hb7 HF
        go_wp2_with fail
        refine (are_any w7 base p F nu kind 2 false s1 HV.out.1 hs100).mono ?_
        rintro e w8 ⟨QA, qc, rfl, ho8, hb8⟩
        have hs8 := hb8.size
        obtain ⟨qn, hqn⟩ : ∃ n, (are s1 2).length = n := ⟨_, rfl⟩
        have hq100 : qn ≤ 100 := by have := are_len s1 2; omega
        rw [hqn]
        have HW := Lib.hid (And.intro (HV.out.1.fresh hb8) (And.intro (HV.out.2.1.fresh hb8) (And.intro (HV.out.2.2.1.fresh hb8) (And.intro ho8 hqn)))); clear ho8 hb8 hqn
        obtain ⟨ln, hln⟩ : ∃ n, (are s1 0).length = n := ⟨_, rfl⟩
        rw [hln]
        have HLN := Lib.hid hln; clear hln
        go_wp2_with fail
        go_loopg [186] qn (fun gk iv wq => ∃ (k : Nat), k ≤ qn ∧ gk = qn - k ∧ iv = .int .i64 k ∧ Hid (Mdl wq base F p nu kind false (setAll ((are s1 2).take k) 0 s1) ∧ Own wq V.heap.size 3 LA lc (are s1 0) ∧ Own wq w7.heap.size 3 QA qc (are s1 2)) ∧ Touch F w wq)
        case atStart => exact ⟨0, Nat.zero_le _, rfl, rfl, ⟨HW.out.1, HW.out.2.2.1, HW.out.2.2.2.1⟩, HW.out.2.1⟩
        case round =>
          obtain ⟨k, hk, rfl, rfl, hkeep, hTq⟩ := hrel
          by_cases hlt : k < qn
          · obtain ⟨z, hz⟩ : ∃ z, (are s1 2)[k]? = some z := ⟨_, List.getElem?_eq_getElem (by have := HW.out.2.2.2.2; omega)⟩
            obtain ⟨i, rfl, hi⟩ := are_mem (List.mem_of_getElem? hz)
            have hil := stAt_lt hi
            obtain ⟨gq, rfl, hgq1, hgq2⟩ := hkeep.out.2.2.some_ (by have := HW.out.2.2.2.2; omega)
            have z0 := hkeep.out.2.2.cell_int hz
            obtain ⟨x, hx⟩ : ∃ x, (setAll ((are s1 2).take k) 0 s1)[i]? = some x := ⟨_, List.getElem?_eq_getElem (by rw [setAll_length]; exact hil)⟩
            obtain ⟨g, c, v, q0, u0, u1, u2, uf, hgF, hset⟩ := hkeep.out.1.get hx
            rw [setAll_length] at q0
            obtain ⟨L, hL⟩ : ∃ L, s1.length = L := ⟨_, rfl⟩
            rw [hL] at q0
            have b0 : (0 : Int) ≤ (k : Int) := by omega
            have b1 : (k : Int) < (qn : Int) := by omega
            have i0 : (0 : Int) ≤ (i : Int) := by omega
            have i1 : (i : Int) < (L : Int) := by omega
            obtain ⟨k1, k2⟩ := hset 0 (by unfold I64; omega)
            have hsn := setAll_snoc (are s1 2) k (i : Int) 0 s1 hz
            rw [Int.toNat_natCast] at hsn
            rw [← hsn] at k1
            have HX := Lib.hid (And.intro k1 (And.intro (hkeep.out.2.1.intKeep k2) (hkeep.out.2.2.intKeep k2))); clear k1 k2 hsn hset hkeep hx hz hL hi hil
            go_wp2_with fail
            go_roundg (qn - (k + 1))
            case measure => omega
            case rel => exact ⟨k + 1, by omega, rfl, by go_num, HX.out, hTq.setCell hgF _⟩
          · obtain rfl : qn = k := by omega
            have hf := hkeep.out.1
            rw [List.take_of_length_le (by have := HW.out.2.2.2.2; omega), setAll_whiten] at hf
            have HZ := Lib.hid (And.intro hf hkeep.out.2.1); clear hf hkeep
            go_wp2_with fail
            have hVs := HV.out.2.2.2
            refine (gone_any wr base V.heap.size p ln lc F nu kind 3 false (s1.map whiten) LA (are s1 0) HZ.out.1 HZ.out.2 (fun g hg hF => by have h1 := (HZ.out.2.lt g hg).1; have h2 := H.out.lt g hF; omega) (fun x hx => by obtain ⟨i, rfl, hi⟩ := are_mem hx; exact ⟨i, rfl, by rw [List.length_map]; exact stAt_lt hi⟩) HLN.out (by rw [List.length_map]; exact hs100) (fun x hx => by
              obtain ⟨y, hy, rfl⟩ := List.mem_map.1 hx
              have := HS.out.2.2.2 y hy
              unfold whiten; split <;> exact this) (by unfold I64; omega)).mono ?_
            rintro e w9 ⟨rfl, h9a, h9b⟩
            rw [HS.out.2.2.1] at h9a
            have HE := Lib.hid (And.intro h9a (hTq.trans h9b)); clear h9a h9b
            go_wp2_with fail
            rw [← HP.out]
            have hln := HLN.out
            rw [are_whiteN] at hln
            refine MdPost.same HR.out ?_ ?_ HE.out.2
            · have : endN s = ln := by unfold endN; rw [HS.out.2.1]; exact hln
              rw [this]; rfl
            · have : endI s = s1.map sweep1 := by unfold endI; rw [HS.out.2.1]
              rw [this]; exact HE.out.1

end Go.Proofs.Ytpkccpegdpodoaa

/- R.Model: Marks, of any deed. Are two graphs the same? -/
namespace Go.Proofs.Ytpkccpegdpodoaa
open Go.RowKit

attribute [local go_sem ↓] Go.wp_at_zero Go.wp_at_succ

theorem marks_any (w : World) (base p : Nat) (F : Nat → Prop) (nu kind dd a b n : Int) (mk : Bool) (s : List It) (h : Mdl w base F p nu kind mk s) (hi : MInv kind mk s) (hk : kind = 1 ∨ kind = 2) (hF : ∀ g, F g → g < w.heap.size) (hd : I64 a ∧ I64 b ∧ I64 n) :
    Calls Try.prog 53 #[.pointer (some ⟨p, 0, none⟩), .agg #[.int .i64 dd, .int .i64 a, .int .i64 b, .int .i64 n]] w (MdPost base p F nu kind w (marksI kind mk s ⟨dd, a, b, n⟩)) := by
  have H := MdPre.mk_ (dd := dd) h hi hk hF hd
  by_cases h1 : dd = 1
  · subst h1; exact marks1 w _ base p F nu kind a b n mk s H
  by_cases h2 : dd = 2
  · subst h2; exact marks2 w _ base p F nu kind a b n mk s H
  by_cases h4 : dd = 4
  · subst h4; exact marks4 w _ base p F nu kind a b n mk s H
  by_cases h3 : dd = 3
  · subst h3; exact marks3 w _ base p F nu kind a b n mk s H
  by_cases h6 : dd = 6
  · subst h6; exact marks6 w _ base p F nu kind a b n mk s H
  by_cases h5 : dd = 5
  · subst h5; exact marks5 w _ base p F nu kind a b n mk s H
  by_cases h7 : dd = 7
  · subst h7; exact marks7 w _ base p F nu kind a b n mk s H
  exact marksX w _ base p F nu kind dd a b n mk s H h1 h2 h4 h3 h6 h5 h7

set_option maxHeartbeats 1600000 in
set_option maxRecDepth 100000 in
theorem same_any (w : World) (HA HB RA RB : Option Addr) (hc hd rc rd n m : Nat) (has : List (List Int)) (roots : List Int) (ha : At w w.heap.size HA has) (hb : At w w.heap.size HB has) (ra : At w w.heap.size RA roots) (rb : At w w.heap.size RB roots)
    (hn : has.length = n) (hm : roots.length = m) (hn100 : n ≤ 100) (hm100 : m ≤ 1000) (hx : ∀ l ∈ has, l.length ≤ 10) :
    Calls Try.prog 56 #[.agg #[.slice HA n hc, .slice RA m rc], .agg #[.slice HB n hd, .slice RB m rd]] w fun e w' => e = .returned (.bool true) ∧ Below w.heap.size w w' := by
  have H := Lib.hid (And.intro ha (And.intro hb (And.intro ra (And.intro rb (And.intro hn (And.intro hm hx)))))); clear ha hb ra rb hn hm hx
  go_enter Try.func56, Try.ntmps56
  go_wp2_with fail
  refine calls_world (fun W => Blk W w.heap.size 49 #[.slice HA n hc, .slice RA m rc] ∧ Blk W (w.heap.size + 1) 49 #[.slice HB n hd, .slice RB m rd] ∧ Below w.heap.size w W) ⟨(Blk.new w _ _).alloc _, Blk.at_ _ _ _ (by simp), ((Below.refl _ _).alloc (Nat.le_refl _) _).alloc (by simp) _⟩ ?_
  rintro W ⟨hA, hB, hbW⟩
  refine (eqInt_n RA RB rc rd w.heap.size m m roots roots W H.out.2.2.2.2.2.1 H.out.2.2.2.2.2.1 (H.out.2.2.1.below hbW) (H.out.2.2.2.1.below hbW) (by omega)).mono ?_
  rintro e w1 ⟨rfl, rfl⟩
  rw [decide_eq_true rfl]
  have a0 := hA.cell 0 (v := .slice HA n hc) rfl
  have b0 := hB.cell 0 (v := .slice HB n hd) rfl
  have HW := Lib.hid (And.intro hA (And.intro hB hbW)); clear hA hB hbW
  go_wp2_with fail
  clear a0 b0
  go_loopg [24] n (fun gk iv wr => ∃ k : Nat, k ≤ n ∧ gk = n - k ∧ iv = .int .i64 k ∧ Hid (Blk wr w.heap.size 49 #[.slice HA n hc, .slice RA m rc] ∧ Blk wr (w.heap.size + 1) 49 #[.slice HB n hd, .slice RB m rd]) ∧ Below w.heap.size w wr)
  case atStart => exact ⟨0, Nat.zero_le _, rfl, rfl, ⟨HW.out.1, HW.out.2.1⟩, HW.out.2.2⟩
  case round =>
    obtain ⟨k, hk, rfl, rfl, hkeep, hbl⟩ := hrel
    by_cases hlt : k < n
    · obtain ⟨b1, o1, x, A1, c1, rfl, hb1, hx1, q1, at1, l1, l2⟩ := (H.out.1.below hbl).slice_ (k := k) (by have := H.out.2.2.2.2.1; omega)
      obtain ⟨b2, o2, x', A2, c2, rfl, hb2, hx2, q2, at2, l3, l4⟩ := (H.out.2.1.below hbl).slice_ (k := k) (by have := H.out.2.2.2.2.1; omega)
      rw [hx1] at hx2; injection hx2 with hx2; subst hx2
      have hx10 := H.out.2.2.2.2.2.2 x (List.mem_of_getElem? hx1)
      have a0 := hkeep.out.1.cell 0 (v := .slice (some ⟨b1, o1, none⟩) n hc) rfl
      have b0 := hkeep.out.2.cell 0 (v := .slice (some ⟨b2, o2, none⟩) n hd) rfl
      have k0 : (0 : Int) ≤ (k : Int) := by omega
      have k1 : (k : Int) < (n : Int) := by omega
      obtain ⟨xn, hxn⟩ : ∃ n, x.length = n := ⟨_, rfl⟩
      rw [hxn] at q1 q2 hx10
      have HX := Lib.hid (And.intro at1 (And.intro at2 (And.intro hxn hkeep.out))); clear at1 at2 hxn hkeep hx1 l1 l2 l3 l4
      go_wp2_with fail
      refine wp_region_held_drew (S := (fun w' => w'.cell? ⟨w.heap.size, 0, none⟩ = some (.slice (some ⟨b1, o1, none⟩) n hc) ∧ w'.cell? ⟨w.heap.size + 1, 0, none⟩ = some (.slice (some ⟨b2, o2, none⟩) n hd) ∧ w'.cell? ⟨b1, o1 + k, none⟩ = some (.slice A1 xn c1) ∧ w'.cell? ⟨b2, o2 + k, none⟩ = some (.slice A2 xn c2))) (by kernel_rfl) ?_ (fun hHeld0 => ?_)
      · first | trivial | ((try dsimp only); (exact ⟨a0, b0, q1, q2⟩))
      refine held_take (v := ?_) 0 rfl (by kernel_rfl) (by kernel_rfl) (by kernel_rfl) (fun _ _ _ h => h) (by rfl) ?_ (by assumption) ?_
      rotate_left
      · (intro w hSw; (try dsimp only at hSw); go_simp; try with_reducible rfl)
      try simp only [Act.put, List.setIfInBounds_toArray, List.set_cons_zero, List.set_cons_succ]
      refine held_take (v := ?_) 1 rfl (by kernel_rfl) (by kernel_rfl) (by kernel_rfl) (fun _ _ _ h => h) (by rfl) ?_ (by assumption) ?_
      rotate_left
      · (intro w hSw; (try dsimp only at hSw); go_simp; try with_reducible rfl)
      try simp only [Act.put, List.setIfInBounds_toArray, List.set_cons_zero, List.set_cons_succ]
      refine held_take (v := ?_) 2 rfl (by kernel_rfl) (by kernel_rfl) (by kernel_rfl) (fun _ _ _ h => h) (by rfl) ?_ (by assumption) ?_
      rotate_left
      · (intro w hSw; (try dsimp only at hSw); go_simp; try with_reducible rfl)
      try simp only [Act.put, List.setIfInBounds_toArray, List.set_cons_zero, List.set_cons_succ]
      refine held_take (v := ?_) 3 rfl (by kernel_rfl) (by kernel_rfl) (by kernel_rfl) (fun _ _ _ h => h) (by rfl) ?_ (by assumption) ?_
      rotate_left
      · (intro w hSw; (try dsimp only at hSw); go_simp; try with_reducible rfl)
      try simp only [Act.put, List.setIfInBounds_toArray, List.set_cons_zero, List.set_cons_succ]
      refine held_take (v := ?_) 4 rfl (by kernel_rfl) (by kernel_rfl) (by kernel_rfl) (fun _ _ _ h => h) (by rfl) ?_ (by assumption) ?_
      rotate_left
      · (intro w hSw; (try dsimp only at hSw); go_simp; try with_reducible rfl)
      try simp only [Act.put, List.setIfInBounds_toArray, List.set_cons_zero, List.set_cons_succ]
      refine held_take (v := ?_) 5 rfl (by kernel_rfl) (by kernel_rfl) (by kernel_rfl) (fun _ _ _ h => h) (by rfl) ?_ (by assumption) ?_
      rotate_left
      · (intro w hSw; (try dsimp only at hSw); go_simp; try with_reducible rfl)
      try simp only [Act.put, List.setIfInBounds_toArray, List.set_cons_zero, List.set_cons_succ]
      refine held_take (v := ?_) 6 rfl (by kernel_rfl) (by kernel_rfl) (by kernel_rfl) (fun _ _ _ h => h) (by rfl) ?_ (by assumption) ?_
      rotate_left
      · (intro w hSw; (try dsimp only at hSw); go_simp; try with_reducible rfl)
      try simp only [Act.put, List.setIfInBounds_toArray, List.set_cons_zero, List.set_cons_succ]
      refine held_take (v := ?_) 7 rfl (by kernel_rfl) (by kernel_rfl) (by kernel_rfl) (fun _ _ _ h => h) (by rfl) ?_ (by assumption) ?_
      rotate_left
      · (intro w hSw; (try dsimp only at hSw); go_simp; try with_reducible rfl)
      try simp only [Act.put, List.setIfInBounds_toArray, List.set_cons_zero, List.set_cons_succ]
      refine held_take (v := ?_) 8 rfl (by kernel_rfl) (by kernel_rfl) (by kernel_rfl) (fun _ _ _ h => h) (by rfl) ?_ (by assumption) ?_
      rotate_left
      · (intro w hSw; (try dsimp only at hSw); go_simp; try with_reducible rfl)
      try simp only [Act.put, List.setIfInBounds_toArray, List.set_cons_zero, List.set_cons_succ]
      refine held_take (v := ?_) 9 rfl (by kernel_rfl) (by kernel_rfl) (by kernel_rfl) (fun _ _ _ h => h) (by rfl) ?_ (by assumption) ?_
      rotate_left
      · (intro w hSw; (try dsimp only at hSw); go_simp; try with_reducible rfl)
      try simp only [Act.put, List.setIfInBounds_toArray, List.set_cons_zero, List.set_cons_succ]
      refine held_call 10 (by kernel_rfl) rfl (fun K hK => ?_)
      go_simp
      go_at_call 31; refine (eqInt_n A1 A2 c1 c2 w.heap.size xn xn x x _ HX.out.2.2.1 HX.out.2.2.1 HX.out.1.drew HX.out.2.1.drew (by omega)).mono ?_; rintro e w5 ⟨rfl, rfl⟩; rw [decide_eq_true rfl]
      try (go_wp2_with fail)
      refine hK.out _ _ ?_ (fun hHeld1 => ?_)
      · first | trivial | ((try dsimp only); (exact ⟨a0, b0, q1, q2⟩))
      clear hK K hHeld0
      try simp only [Act.put, List.setIfInBounds_toArray, List.set_cons_zero, List.set_cons_succ]
      refine held_take (v := ?_) 11 rfl (by kernel_rfl) (by kernel_rfl) (by kernel_rfl) (fun _ _ _ h => h) (by rfl) ?_ (by assumption) ?_
      rotate_left
      · (intro w hSw; (try dsimp only at hSw); go_simp; try with_reducible rfl)
      try simp only [Act.put, List.setIfInBounds_toArray, List.set_cons_zero, List.set_cons_succ]
      refine wpAnyH_done (by kernel_rfl) ?_ _
      go_wp2_with fail
      go_roundg (n - (k + 1))
      case measure => omega
      case rel => exact ⟨k + 1, by omega, rfl, by go_num, ⟨HX.out.2.2.2.1.drew, HX.out.2.2.2.2.drew⟩, below_drewN hbl 1⟩
    · obtain rfl : n = k := by omega
      have HF := Lib.hid hkeep.out; clear hkeep
      go_wp2_with fail
      go_ret
      exact ⟨rfl, hbl⟩

end Go.Proofs.Ytpkccpegdpodoaa
