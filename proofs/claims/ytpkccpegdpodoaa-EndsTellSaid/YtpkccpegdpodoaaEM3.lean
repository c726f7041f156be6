/- EM: MkF, MkG, MkH, MkI, MkJ, MkK, MkL, MkM, MkN, MkO, MkP, MkQ, MarkP, MkR, GenL, GenM, GnA, GnB, GnC. -/
import Derived.Test.YtpkccpegdpodoaaEM1
import Derived.Test.YtpkccpegdpodoaaEM2
import Derived.BigRegion
import Derived.Outline
import Derived.StillTailTactics
import Derived.BigQuiet
import Derived.Maps.OwnSet
import Derived.Maps.RangeWalk
/- R.Model: shade; what is wrong with a deed that makes. mark: make. R.Model: more. -/
namespace Go.Proofs.Ytpkccpegdpodoaa
open Go.RowKit

attribute [local go_sem ↓] Go.wp_at_zero Go.wp_at_succ

set_option maxHeartbeats 800000 in
set_option maxRecDepth 100000 in
theorem rshadeL_any (w : World) (base p : Nat) (F : Nat → Prop) (nu kind n : Int) (mk : Bool) (A : Option Addr) (c : Nat) (s : List It) (l : List ItR) (h : MdlL w base F p nu kind mk A c s l) (hn : n = -1 ∨ ∃ m : Nat, n = (m : Int) ∧ m < s.length) (hs : s.length ≤ 1000) :
    Calls Try.prog 131 #[.pointer (some ⟨p, 0, none⟩), .int .i64 n] w fun e w' => e = .returned (.tuple #[]) ∧ (∃ l', MdlL w' base F p nu kind mk A c (shadeI mk n s) l' ∧ SameA l l') ∧ Touch F w w' ∧ IntKeep w w' ∧ w'.heap.size = w.heap.size := by
  have H := Lib.hid h
  obtain ⟨h1, h2, h3, h4, h5⟩ := h
  have c1 := h1.cell 3 (v := .bool mk) rfl
  have c2 := h1.cell 0 (v := .slice A l.length c) rfl
  have HS := Lib.hid h5
  rcases hn with rfl | ⟨m, rfl, hm⟩
  · have e1 : shadeI mk (-1) s = s := if_neg (by rintro ⟨-, h, -⟩; omega)
    rw [e1]
    clear h1 h2 h5 e1
    cases mk
    all_goals
      go_enter Try.func131, Try.ntmps131
      go_wp2
      go_end0
      exact ⟨rfl, ⟨l, H.out, SameA.refl l⟩, Touch.refl _ _, IntKeep.refl _, rfl⟩
  · rw [← h5, its_length] at hm
    rw [← h5, its_length] at hs
    obtain ⟨x, hx⟩ : ∃ x, l[m]? = some x := ⟨_, List.getElem?_eq_getElem hm⟩
    obtain ⟨g, rfl, hg1, hg2, q0, q1, q2⟩ := h2.cells hx
    have hst : stAt s m = some x.st := by rw [← h5]; exact stAt_get (its_get hx)
    have b0 : (0 : Int) ≤ (m : Int) := by omega
    have d9 : ((m : Int) != -1) = true := by simp
    have b1 : (m : Int) < (l.length : Int) := by omega
    have hne : g ≠ p := fun e => own_ne_ty h2.row h1 (by decide) (by rw [e]; rfl)
    have z1 := h2.row.frozen (g := g) rfl (m * 3 + 1)
    have hgF := h2.foot g rfl
    have hset := h2.setSt hx (by decide) 1 (by unfold I64; omega)
    have hblk := h1.far (p := ⟨g, m * 3 + 1, none⟩) (fun e => hne e.symm) (.int .i64 1)
    have hits := its_set l m x { x with st := 1 } (It.setst 1) hx rfl
    rw [h5] at hits
    obtain ⟨v, hv⟩ : ∃ v, x.st = v := ⟨_, rfl⟩
    rw [hv] at hst q1
    have hln : (l.set m { x with st := 1 }).length = l.length := List.length_set
    have hik := IntKeep.set h2.row (by decide) (m * 3 + 1) (.int .i64 1)
    have hsa := SameA.set (y := { x with st := 1 }) hx rfl rfl
    have HB := Lib.hid (And.intro hset (And.intro hblk (And.intro hits (And.intro hst (And.intro hln (And.intro hik hsa))))))
    clear h1 h2 h5 hx q0 q2 hst hset hblk hits hv hln hik hsa
    by_cases hc : mk = true ∧ v = 0
    · obtain ⟨rfl, rfl⟩ := hc
      go_enter Try.func131, Try.ntmps131
      go_wp2
      go_end0
      obtain ⟨k1, k2, k3, k4, k5, k6, k7⟩ := HB.out
      have e1 : shadeI true (m : Int) s = s.modify m (It.setst 1) := by unfold shadeI; rw [if_pos ⟨rfl, by omega, by simpa using k4⟩]; simp
      rw [e1]
      exact ⟨rfl, ⟨_, ⟨by rw [k5]; exact k2, k1, h3, h4, k3⟩, k7⟩, (Touch.refl _ _).setCell hgF _, k6, by simp [World.setCell]⟩
    · have e1 : shadeI mk (m : Int) s = s := if_neg (by rintro ⟨h, -, h'⟩; exact hc ⟨h, by rw [Int.toNat_natCast, HB.out.2.2.2.1] at h'; injection h'⟩)
      rw [e1]
      have HC := Lib.hid e1; clear e1
      cases mk with
      | false =>
        clear hc
        go_enter Try.func131, Try.ntmps131
        go_wp2
        go_end0
        exact ⟨rfl, ⟨l, H.out, SameA.refl l⟩, Touch.refl _ _, IntKeep.refl _, rfl⟩
      | true =>
        have d0 : (v == 0) = false := by simp at hc; simpa using hc
        clear hc
        go_enter Try.func131, Try.ntmps131
        go_wp2
        go_end0
        exact ⟨rfl, ⟨l, H.out, SameA.refl l⟩, Touch.refl _ _, IntKeep.refl _, rfl⟩
theorem rshadeA_any (w : World) (base p : Nat) (F : Nat → Prop) (nu kind n : Int) (mk : Bool) (A : Option Addr) (c : Nat) (s : List It) (h : MdlA w base F p nu kind mk A c s) (hn : n = -1 ∨ ∃ m : Nat, n = (m : Int) ∧ m < s.length) (hs : s.length ≤ 1000) :
    Calls Try.prog 131 #[.pointer (some ⟨p, 0, none⟩), .int .i64 n] w fun e w' => e = .returned (.tuple #[]) ∧ MdlA w' base F p nu kind mk A c (shadeI mk n s) ∧ Touch F w w' ∧ IntKeep w w' ∧ w'.heap.size = w.heap.size := by
  obtain ⟨l, h⟩ := h
  exact (rshadeL_any w base p F nu kind n mk A c s l h hn hs).mono fun e w' ⟨h1, ⟨l', h2, _⟩, h3⟩ => ⟨h1, ⟨l', h2⟩, h3⟩
theorem rshade_any (w : World) (base p : Nat) (F : Nat → Prop) (nu kind n : Int) (mk : Bool) (s : List It) (h : Mdl w base F p nu kind mk s) (hn : n = -1 ∨ ∃ m : Nat, n = (m : Int) ∧ m < s.length) (hs : s.length ≤ 1000) :
    Calls Try.prog 131 #[.pointer (some ⟨p, 0, none⟩), .int .i64 n] w fun e w' => e = .returned (.tuple #[]) ∧ Mdl w' base F p nu kind mk (shadeI mk n s) ∧ Touch F w w' ∧ IntKeep w w' ∧ w'.heap.size = w.heap.size := by
  obtain ⟨A, c, h⟩ := h
  exact (rshadeA_any w base p F nu kind n mk A c s h hn hs).mono fun e w' ⟨h1, h2, h3⟩ => ⟨h1, ⟨A, c, h2⟩, h3⟩


def ddV (d : Dd) : Value := .agg #[.int .i64 d.dd, .int .i64 d.a, .int .i64 d.b, .int .i64 d.n]

set_option maxHeartbeats 800000 in
set_option maxRecDepth 100000 in
theorem newFault_any (w : World) (base p : Nat) (F : Nat → Prop) (nu kind dd a b n : Int) (mk : Bool) (s : List It) (h : Mdl w base F p nu kind mk s) (hs : s.length ≤ 1000) :
    Calls Try.prog 128 #[.pointer (some ⟨p, 0, none⟩), .agg #[.int .i64 dd, .int .i64 a, .int .i64 b, .int .i64 n]] w fun e w' => e = .returned (.int .i64 (newE s n)) ∧ Below w.heap.size w w' := by
  obtain ⟨A, c, l, h1, h2, h3, h4, h5⟩ := h
  have hl : s.length = l.length := by rw [← h5, its_length]
  have c0 := h1.cell 0 (v := .slice A l.length c) rfl
  have hplt := h1.lt
  rw [hl] at hs
  have HL := Lib.hid hl; clear h1 h2 h3 h5 hl
  by_cases h1 : n < 0
  · have HE := Lib.hid (show newE s n = 1 from if_pos (.inl h1))
    go_enter Try.func128, Try.ntmps128
    go_wp2
    go_ret
    exact ⟨by rw [HE.out]; rfl, (Below.refl _ _).alloc (Nat.le_refl _) _⟩
  · by_cases h2 : 10 < n
    · have HE := Lib.hid (show newE s n = 1 from if_pos (.inr h2))
      go_enter Try.func128, Try.ntmps128
      go_wp2
      go_ret
      exact ⟨by rw [HE.out]; rfl, (Below.refl _ _).alloc (Nat.le_refl _) _⟩
    · by_cases h3 : 100 ≤ l.length
      · have HE := Lib.hid (show newE s n = 2 by unfold newE; rw [if_neg (by omega), if_pos (by rw [HL.out]; exact h3)])
        go_enter Try.func128, Try.ntmps128
        go_wp2
        go_ret
        exact ⟨by rw [HE.out]; rfl, (Below.refl _ _).alloc (Nat.le_refl _) _⟩
      · have HE := Lib.hid (show newE s n = 0 by unfold newE; rw [if_neg (by omega), if_neg (by rw [HL.out]; exact h3)])
        have h3' : l.length < 100 := by omega
        go_enter Try.func128, Try.ntmps128
        go_wp2
        go_ret
        exact ⟨by rw [HE.out]; rfl, (Below.refl _ _).alloc (Nat.le_refl _) _⟩

theorem make_no (w : World) (base p : Nat) (F : Nat → Prop) (kind n : Int) (mk : Bool) (s : List It) (h : Mkr w base F p kind mk s) (hs : s.length ≤ 1000) (he : newE s n ≠ 0) :
    Calls Try.prog 122 #[.pointer (some ⟨p, 0, none⟩), .int .i64 n] w fun e w' => e = .returned (.tuple #[.int .i64 0, .int .i64 (newE s n)]) ∧ w = w' := by
  obtain ⟨A, c, l, h1, h2, h3, h4, h5⟩ := h
  have hl : s.length = l.length := by rw [← h5, its_length]
  have c0 := h1.cell 2 (v := .slice A l.length c) rfl
  rw [hl] at hs
  have HL := Lib.hid (And.intro hl he); clear h1 h2 h3 h5 hl he
  by_cases h1 : n < 0
  · have HE := Lib.hid (show newE s n = 1 from if_pos (.inl h1))
    go_enter Try.func122, Try.ntmps122
    go_wp2
    go_ret2
    exact ⟨by rw [HE.out]; rfl, rfl⟩
  · by_cases h2 : 10 < n
    · have HE := Lib.hid (show newE s n = 1 from if_pos (.inr h2))
      go_enter Try.func122, Try.ntmps122
      go_wp2
      go_ret2
      exact ⟨by rw [HE.out]; rfl, rfl⟩
    · have h3 : 100 ≤ l.length := by
        have := HL.out.2
        unfold newE at this
        rw [if_neg (by omega)] at this
        have hq := HL.out.1
        split at this <;> omega
      have HE := Lib.hid (show newE s n = 2 by unfold newE; rw [if_neg (by omega), if_pos (by rw [HL.out.1]; exact h3)])
      go_enter Try.func122, Try.ntmps122
      go_wp2
      go_ret2
      exact ⟨by rw [HE.out]; rfl, rfl⟩

theorem infoThing : (Try.prog.info? 187).map (fun i => (i.zero, i.size, i.bytes)) = some (some (.agg #[.slice none 0 0, .int .i64 0, .bool false]), 3, 40) := by kernel_rfl
theorem infoItem : (Try.prog.info? 104).map (fun i => (i.zero, i.size, i.bytes)) = some (some (.agg #[.slice none 0 0, .int .i64 0, .bool false]), 3, 40) := by kernel_rfl
theorem newE_ok {s : List It} {n : Int} (h : newE s n = 0) : 0 ≤ n ∧ n ≤ 10 ∧ s.length < 100 := by
  unfold newE at h
  split at h
  · cases h
  · split at h
    · cases h
    · omega

set_option maxHeartbeats 1600000 in
set_option maxRecDepth 100000 in
theorem make_yes (w : World) (base p : Nat) (F : Nat → Prop) (kind n : Int) (mk : Bool) (s : List It) (h : Mkr w base F p kind mk s) (hF : ∀ g, F g → g < w.heap.size) (he : newE s n = 0) :
    Calls Try.prog 122 #[.pointer (some ⟨p, 0, none⟩), .int .i64 n] w fun e w' => e = .returned (.tuple #[.int .i64 s.length, .int .i64 0]) ∧ Mkr w' base (Up F w w') p kind mk (s ++ [newI (if mk = true then 2 else 0) n]) ∧ Touch F w w' := by
  obtain ⟨i0, hi, hz0, hz1, hz2⟩ := info_parts infoThing
  obtain ⟨A, c, l, h1, h2, h3, h4, h5⟩ := h
  have hl : s.length = l.length := by rw [← h5, its_length]
  obtain ⟨e1, e2, e3⟩ := newE_ok he
  rw [hl] at e3 ⊢
  obtain ⟨j, rfl⟩ := Int.eq_ofNat_of_zero_le e1
  obtain ⟨L, hL⟩ : ∃ L, l.length = L := ⟨_, rfl⟩
  rw [hL] at h1 e3 ⊢
  have c0 := h1.cell 2 (v := .slice A L c) rfl
  have c1 := h1.cell 1 (v := .bool mk) rfl
  have hplt := h1.lt
  have d1 : ¬ (j : Int) < 0 := by omega
  have d2 : ¬ (10 : Int) < (j : Int) := by omega
  have d3 : ¬ (100 : Int) ≤ (L : Int) := by omega
  obtain ⟨st, hst⟩ : ∃ st : Int, (if mk = true then 2 else 0) = st := ⟨_, rfl⟩
  rw [hst]
  have hst2 : I64 st := by rw [← hst]; unfold I64; split <;> omega
  have HST := Lib.hid (And.intro hst2 hst); clear hst2 hst
  have hbase : base ≤ w.heap.size := by omega
  have H := Lib.hid (And.intro h1 (And.intro h2 (And.intro h3 (And.intro h5 (And.intro hF hL))))); clear h1 h2 h3 h5 hF hL hl he
  go_enter Try.func122, Try.ntmps122
  go_wp2_with fail
  refine calls_world (fun V => V = w.alloc (.cells #[.int .i64 (-1)] 3)) rfl ?_
  rintro V hV
  have hAt : At V V.heap.size (some ⟨w.heap.size, 0, none⟩) [(-1 : Int)] := by
    rw [hV]
    have := At.built w #[.int .i64 (-1)] 3 [(-1 : Int)] rfl (by intro z hz; simp at hz; subst hz; exact (by unfold I64; omega : I64 (-1)))
    exact this.more (by simp)
  have hVs : V.heap.size = w.heap.size + 1 := by rw [hV]; simp
  have hbV : Below w.heap.size w V := by rw [hV]; exact (Below.refl _ _).alloc (Nat.le_refl _) _
  clear hV
  refine (repeatInt_any (some ⟨w.heap.size, 0, none⟩) 1 V.heap.size j (-1) V hAt (Nat.le_refl _) (Nat.le_refl _) (by omega)).mono ?_
  rintro e w1 ⟨rfl, ho1, hb1⟩
  have hs1 := hb1.size
  have hR := (ho1.lt V.heap.size rfl).2
  have hb : Below w.heap.size w w1 := hbV.trans (hb1.mono (by omega))
  rw [hVs] at ho1 hR
  rw [hVs]
  have H1 := Lib.hid (And.intro ho1 (And.intro (H.out.1.fresh hb) (And.intro (H.out.2.1.fresh hb) hb))); clear ho1 hb1 hbV hAt hb hVs c0 c1
  have c0 := H1.out.2.1.cell 2 (v := .slice A L c) rfl
  have c1 := H1.out.2.1.cell 1 (v := .bool mk) rfl
  have hp1 := H1.out.2.1.lt
  rcases Bool.eq_false_or_eq_true mk with hmk | hmk
  all_goals
    rw [hmk] at c1
    have hst := HST.out.2
    rw [hmk] at hst
    have HMK := Lib.hid (And.intro hmk hst); clear hmk hst
    go_wp2_with fail
    have hst := HMK.out.2
    refine wp_world (fun W => Blk W p 182 #[.int .i64 kind, .bool mk, .slice A L c] ∧ Its W base F 187 A c l ∧ Blk W w1.heap.size 187 #[.slice (some ⟨w.heap.size + 1, 0, none⟩) j j, .int .i64 st, .bool true] ∧ Own W (w.heap.size + 1) 3 (some ⟨w.heap.size + 1, 0, none⟩) j (List.replicate j (-1)) ∧ Below w.heap.size w W ∧ w1.heap.size < W.heap.size) ⟨H1.out.2.1.alloc _, H1.out.2.2.1.alloc _, by first | (rw [← hst]; exact Blk.new _ _ _), H1.out.1.alloc _, H1.out.2.2.2.alloc (by omega) _, by simp⟩ ?_
    rintro W hW
    have c0 := hW.1.cell 2 (v := .slice A L c) rfl
    have x0 := hW.2.2.1.cell 0 (v := .slice (some ⟨w.heap.size + 1, 0, none⟩) j j) rfl
    have x1 := hW.2.2.1.cell 1 (v := .int .i64 st) rfl
    have x2 := hW.2.2.1.cell 2 (v := .bool true) rfl
    have hsW := hW.2.2.2.2.2
    have y0 : (W.alloc (.cells #[.slice (some ⟨w.heap.size + 1, 0, none⟩) j j, .int .i64 st, .bool true] 187)).cell? ⟨w1.heap.size, 0, none⟩ = some (.slice (some ⟨w.heap.size + 1, 0, none⟩) j j) := (World.cell?_alloc_lt _ _ _ (by simp; omega)).trans x0
    have y1 : (W.alloc (.cells #[.slice (some ⟨w.heap.size + 1, 0, none⟩) j j, .int .i64 st, .bool true] 187)).cell? ⟨w1.heap.size, 1, none⟩ = some (.int .i64 st) := (World.cell?_alloc_lt _ _ _ (by simp; omega)).trans x1
    have y2 : (W.alloc (.cells #[.slice (some ⟨w.heap.size + 1, 0, none⟩) j j, .int .i64 st, .bool true] 187)).cell? ⟨w1.heap.size, 2, none⟩ = some (.bool true) := (World.cell?_alloc_lt _ _ _ (by simp; omega)).trans x2
    have yc : (W.alloc (.cells #[.slice (some ⟨w.heap.size + 1, 0, none⟩) j j, .int .i64 st, .bool true] 187)).cell? ⟨p, 2, none⟩ = some (.slice A L c) := (World.cell?_alloc_lt _ _ _ (by simp; omega)).trans c0
    have HW := Lib.hid hW; clear hW hst
    refine wp_region_held_drew (S := (fun w' => w'.cell? ⟨w1.heap.size, 0, none⟩ = some (.slice (some ⟨w.heap.size + 1, 0, none⟩) j j) ∧ w'.cell? ⟨w1.heap.size, 1, none⟩ = some (.int .i64 st) ∧ w'.cell? ⟨w1.heap.size, 2, none⟩ = some (.bool true))) (by kernel_rfl) ?_ (fun hHeld0 => ?_)
    · first | trivial | ((try dsimp only); (exact ⟨x0, x1, x2⟩))
    refine held_take (v := ?_) 0 rfl (by kernel_rfl) (by kernel_rfl) (by kernel_rfl) (fun _ _ _ h => h) (by rfl) ?_ (by assumption) ?_
    rotate_left
    · (intro w hSw; (try dsimp only at hSw); go_simp; try with_reducible rfl)
    try simp only [Act.put, List.setIfInBounds_toArray, List.set_cons_zero, List.set_cons_succ]
    refine held_take (v := ?_) 1 rfl (by kernel_rfl) (by kernel_rfl) (by kernel_rfl) (fun _ _ _ h => h) (by rfl) ?_ (by assumption) ?_
    rotate_left
    · (intro w hSw; (try dsimp only at hSw); go_simp; try with_reducible rfl)
    try simp only [Act.put, List.setIfInBounds_toArray, List.set_cons_zero, List.set_cons_succ]
    refine held_take (v := ?_) 2 rfl (by kernel_rfl) (by kernel_rfl) (by kernel_rfl) (fun _ _ _ h => h) (by rfl) ?_ (by assumption) ?_
    rotate_left
    · (intro w hSw; (try dsimp only at hSw); go_simp; try with_reducible rfl)
    try simp only [Act.put, List.setIfInBounds_toArray, List.set_cons_zero, List.set_cons_succ]
    refine held_take (v := ?_) 3 rfl (by kernel_rfl) (by kernel_rfl) (by kernel_rfl) (fun _ _ _ h => h) (by rfl) ?_ (by assumption) ?_
    rotate_left
    · (intro w hSw; (try dsimp only at hSw); go_simp; try with_reducible rfl)
    try simp only [Act.put, List.setIfInBounds_toArray, List.set_cons_zero, List.set_cons_succ]
    refine held_take (v := ?_) 5 rfl (by kernel_rfl) (by kernel_rfl) (by kernel_rfl) (fun _ _ _ h => h) (by rfl) ?_ (by assumption) ?_
    rotate_left
    · (intro w hSw; (try dsimp only at hSw); go_simp; try with_reducible rfl)
    try simp only [Act.put, List.setIfInBounds_toArray, List.set_cons_zero, List.set_cons_succ]
    refine held_call2 4 6 (by kernel_rfl) rfl rfl (fun K hK => ?_) (fun K hK => ?_)
    · go_simp
      skip
      refine hK.out _ _ ?_ (fun hHeld1 => ?_)
      · first | trivial | ((try dsimp only); (exact ⟨x0, x1, x2⟩))
      clear hK K hHeld0
      try simp only [Act.put, List.setIfInBounds_toArray, List.set_cons_zero, List.set_cons_succ]
      refine held_call 6 (by kernel_rfl) rfl (fun K hK => ?_)
      go_simp
      skip
      refine hK.out _ _ ?_ (fun hHeld2 => ?_)
      · first | trivial | ((try dsimp only); (exact ⟨y0, y1, y2⟩))
      clear hK K hHeld1
      try simp only [Act.put, List.setIfInBounds_toArray, List.set_cons_zero, List.set_cons_succ]
      refine held_call 7 (by kernel_rfl) rfl (fun K hK => ?_)
      refine step_app (α := ItR) (n := L) (m := 1) (nm := L + 1) (r := [⟨some ⟨w.heap.size + 1, 0, none⟩, j, List.replicate j (-1), st, true⟩]) (by rfl) (.tmp 34) (.tmp 36) _ (by rfl) base 187 i0 _ 40 Try.underlying180 hi hz0 hz1 hz2 rfl (by decide) itr_one (by rfl) H.out.2.2.2.2.2 ((HW.out.2.1.row.alloc (.cells #[.slice (some ⟨w.heap.size + 1, 0, none⟩) j j, .int .i64 st, .bool true] 187)).drew) (B := W.heap.size + 1) (X := some ⟨W.heap.size, 0, none⟩) (d := 1) (by rfl) ((At.built W #[.slice (some ⟨w.heap.size + 1, 0, none⟩) j j, .int .i64 st, .bool true] 187 [(⟨some ⟨w.heap.size + 1, 0, none⟩, j, List.replicate j (-1), st, true⟩ : ItR)] (by simp [flat, Flat.cells]) (fun _ _ => trivial)).drew) rfl rfl (by omega) (by simp only [maxLen]; omega) (by simp; omega) ?_; intro A3 c3 w3 ho3 hgr3 hat3; have hs3 := hgr3.size; simp only [World.size_alloc, World.size_drew] at hs3; have n1 := ((HW.out.1.alloc (.cells #[.slice (some ⟨w.heap.size + 1, 0, none⟩) j j, .int .i64 st, .bool true] 187)).drew).grown hgr3 (fun e => own_ne_ty ((HW.out.2.1.row.alloc (.cells #[.slice (some ⟨w.heap.size + 1, 0, none⟩) j j, .int .i64 st, .bool true] 187)).drew) ((HW.out.1.alloc (.cells #[.slice (some ⟨w.heap.size + 1, 0, none⟩) j j, .int .i64 st, .bool true] 187)).drew) (by decide) e); have n2 := ((HW.out.2.2.1.alloc (.cells #[.slice (some ⟨w.heap.size + 1, 0, none⟩) j j, .int .i64 st, .bool true] 187)).drew).grown hgr3 (fun e => by have := H.out.2.2.2.2.1 _ (HW.out.2.1.foot _ e); omega); have m0 := n2.cell 0 (v := .slice (some ⟨w.heap.size + 1, 0, none⟩) j j) rfl; have m1 := n2.cell 1 (v := .int .i64 st) rfl; have m2 := n2.cell 2 (v := .bool true) rfl; have z2 := n1.frozen 2; have mc := n1.cell 2 (v := .slice A L c) rfl
      refine hK.out _ _ ?_ (fun hHeld3 => ?_)
      · first | trivial | ((try dsimp only); (exact ⟨m0, m1, m2⟩))
      clear hK K hHeld2
      try simp only [Act.put, List.setIfInBounds_toArray, List.set_cons_zero, List.set_cons_succ]
      refine held_take (v := ?_) 8 rfl (by kernel_rfl) (by kernel_rfl) (by kernel_rfl) (fun _ _ _ h => h) (by rfl) ?_ (by assumption) ?_
      rotate_left
      · (intro w hSw; (try dsimp only at hSw); go_simp; try with_reducible rfl)
      try simp only [Act.put, List.setIfInBounds_toArray, List.set_cons_zero, List.set_cons_succ]
      refine held_take (v := ?_) 9 rfl (by kernel_rfl) (by kernel_rfl) (by kernel_rfl) (fun _ _ _ h => h) (by rfl) ?_ (by assumption) ?_
      rotate_left
      · (intro w hSw; (try dsimp only at hSw); go_simp; try with_reducible rfl)
      try simp only [Act.put, List.setIfInBounds_toArray, List.set_cons_zero, List.set_cons_succ]
      refine held_call 10 (by kernel_rfl) rfl (fun K hK => ?_)
      go_simp
      skip
      refine hK.out _ _ ?_ (fun hHeld4 => ?_)
      · first | trivial | ((try dsimp only); (exact ⟨(n2.far (p := ⟨p, 2, none⟩) (fun e => by simp at e; omega) _).cell 0 rfl, (n2.far (p := ⟨p, 2, none⟩) (fun e => by simp at e; omega) _).cell 1 rfl, (n2.far (p := ⟨p, 2, none⟩) (fun e => by simp at e; omega) _).cell 2 rfl⟩))
      clear hK K hHeld3
      try simp only [Act.put, List.setIfInBounds_toArray, List.set_cons_zero, List.set_cons_succ]
      refine wpAnyH_done (by kernel_rfl) ?_ _
      have HZ := Lib.hid (And.intro n1 (And.intro n2 (And.intro ho3 (And.intro hgr3 hat3)))); clear n1 n2 ho3 hgr3 hat3 mc m0 m1 m2 c0 x0 x1 x2 y0 y1 y2 yc
      go_upto_region 9 with fail
      refine wp_world (fun V => Hid (Mkr V base (Up F w w3) p kind mk (s ++ [newI st (j : Int)]) ∧ Touch F w V) ∧ V.cell? ⟨p, 2, none⟩ = some (.slice A3 (L + 1) c3) ∧ V.heap.size = w3.heap.size) ⟨⟨?_, ?_⟩, (HZ.out.1.set_ 2 _).cell 2 rfl, by simp⟩ ?_
      · refine ⟨A3, c3, _, ?_, (((HW.out.2.1.alloc (.cells #[.slice (some ⟨w.heap.size + 1, 0, none⟩) j j, .int .i64 st, .bool true] 187)).drew).push (F' := Up F w w3) (by decide) HZ.out.2.2.1 HZ.out.2.2.2.1 HZ.out.2.2.2.2 (fun g hg => .inl hg) (fun g hg => ?_) (((HW.out.2.2.2.1.base_le (by omega : base ≤ w.heap.size + 1)).alloc (.cells #[.slice (some ⟨w.heap.size + 1, 0, none⟩) j j, .int .i64 st, .bool true] 187)).drew) (fun g hg => ?_) (fun k hk => by rw [(List.mem_replicate.1 hk).2]; unfold I64; omega) HST.out.1).far_blk HZ.out.1 (by decide) (by decide) _ _, .inl H.out.2.2.1, h4, ?_⟩
        · have := HZ.out.1.set_ 2 (.slice A3 (L + 1) c3)
          rw [List.length_append, H.out.2.2.2.2.2]; exact this
        · rcases HZ.out.2.2.2.2 with e | e
          · exact .inl (HW.out.2.1.foot g (by rw [← e]; exact hg))
          · have hg0 := (HZ.out.2.2.1.lt g hg).2; rw [e] at hg; injection hg with hg; simp at hg; exact .inr ⟨by omega, hg0⟩
        · injection hg with hg; simp only at hg
          subst hg
          exact ⟨.inr ⟨by omega, by omega⟩, fun e => by have := H.out.2.2.2.2.1 _ e; omega⟩
        · show its (l ++ [_]) = _
          unfold its; rw [List.map_append]
          have := H.out.2.2.2.1
          unfold its at this
          rw [this]; simp [ItR.it, newI]
      · exact ((((Touch.ofBelow HW.out.2.2.2.2.1).alloc (.cells #[.slice (some ⟨w.heap.size + 1, 0, none⟩) j j, .int .i64 st, .bool true] 187)).drew.grown HZ.out.2.2.2.1 (fun g hg => HW.out.2.1.foot g hg)).setCell H.out.2.2.1 _)
      rintro V ⟨hV, v0, hVs⟩
      go_wp2_with fail
      go_ret2
      exact ⟨by first | rfl | (congr 3; omega), hV.out.1.mono (fun g hg => Up.more (w1 := w3) (by omega) hg), hV.out.2⟩
    · go_simp
      skip
      refine hK.out _ _ ?_ (fun hHeld1 => ?_)
      · first | trivial | ((try dsimp only); (exact ⟨y0, y1, y2⟩))
      clear hK K hHeld0
      try simp only [Act.put, List.setIfInBounds_toArray, List.set_cons_zero, List.set_cons_succ]
      refine held_call 4 (by kernel_rfl) rfl (fun K hK => ?_)
      go_simp
      skip
      refine hK.out _ _ ?_ (fun hHeld2 => ?_)
      · first | trivial | ((try dsimp only); (exact ⟨y0, y1, y2⟩))
      clear hK K hHeld1
      try simp only [Act.put, List.setIfInBounds_toArray, List.set_cons_zero, List.set_cons_succ]
      refine held_call 7 (by kernel_rfl) rfl (fun K hK => ?_)
      refine step_app (α := ItR) (n := L) (m := 1) (nm := L + 1) (r := [⟨some ⟨w.heap.size + 1, 0, none⟩, j, List.replicate j (-1), st, true⟩]) (by rfl) (.tmp 34) (.tmp 36) _ (by rfl) base 187 i0 _ 40 Try.underlying180 hi hz0 hz1 hz2 rfl (by decide) itr_one (by rfl) H.out.2.2.2.2.2 ((HW.out.2.1.row.alloc (.cells #[.slice (some ⟨w.heap.size + 1, 0, none⟩) j j, .int .i64 st, .bool true] 187)).drew) (B := W.heap.size + 1) (X := some ⟨W.heap.size, 0, none⟩) (d := 1) (by rfl) ((At.built W #[.slice (some ⟨w.heap.size + 1, 0, none⟩) j j, .int .i64 st, .bool true] 187 [(⟨some ⟨w.heap.size + 1, 0, none⟩, j, List.replicate j (-1), st, true⟩ : ItR)] (by simp [flat, Flat.cells]) (fun _ _ => trivial)).drew) rfl rfl (by omega) (by simp only [maxLen]; omega) (by simp; omega) ?_; intro A3 c3 w3 ho3 hgr3 hat3; have hs3 := hgr3.size; simp only [World.size_alloc, World.size_drew] at hs3; have n1 := ((HW.out.1.alloc (.cells #[.slice (some ⟨w.heap.size + 1, 0, none⟩) j j, .int .i64 st, .bool true] 187)).drew).grown hgr3 (fun e => own_ne_ty ((HW.out.2.1.row.alloc (.cells #[.slice (some ⟨w.heap.size + 1, 0, none⟩) j j, .int .i64 st, .bool true] 187)).drew) ((HW.out.1.alloc (.cells #[.slice (some ⟨w.heap.size + 1, 0, none⟩) j j, .int .i64 st, .bool true] 187)).drew) (by decide) e); have n2 := ((HW.out.2.2.1.alloc (.cells #[.slice (some ⟨w.heap.size + 1, 0, none⟩) j j, .int .i64 st, .bool true] 187)).drew).grown hgr3 (fun e => by have := H.out.2.2.2.2.1 _ (HW.out.2.1.foot _ e); omega); have m0 := n2.cell 0 (v := .slice (some ⟨w.heap.size + 1, 0, none⟩) j j) rfl; have m1 := n2.cell 1 (v := .int .i64 st) rfl; have m2 := n2.cell 2 (v := .bool true) rfl; have z2 := n1.frozen 2; have mc := n1.cell 2 (v := .slice A L c) rfl
      refine hK.out _ _ ?_ (fun hHeld3 => ?_)
      · first | trivial | ((try dsimp only); (exact ⟨m0, m1, m2⟩))
      clear hK K hHeld2
      try simp only [Act.put, List.setIfInBounds_toArray, List.set_cons_zero, List.set_cons_succ]
      refine held_take (v := ?_) 8 rfl (by kernel_rfl) (by kernel_rfl) (by kernel_rfl) (fun _ _ _ h => h) (by rfl) ?_ (by assumption) ?_
      rotate_left
      · (intro w hSw; (try dsimp only at hSw); go_simp; try with_reducible rfl)
      try simp only [Act.put, List.setIfInBounds_toArray, List.set_cons_zero, List.set_cons_succ]
      refine held_take (v := ?_) 9 rfl (by kernel_rfl) (by kernel_rfl) (by kernel_rfl) (fun _ _ _ h => h) (by rfl) ?_ (by assumption) ?_
      rotate_left
      · (intro w hSw; (try dsimp only at hSw); go_simp; try with_reducible rfl)
      try simp only [Act.put, List.setIfInBounds_toArray, List.set_cons_zero, List.set_cons_succ]
      refine held_call 10 (by kernel_rfl) rfl (fun K hK => ?_)
      go_simp
      skip
      refine hK.out _ _ ?_ (fun hHeld4 => ?_)
      · first | trivial | ((try dsimp only); (exact ⟨(n2.far (p := ⟨p, 2, none⟩) (fun e => by simp at e; omega) _).cell 0 rfl, (n2.far (p := ⟨p, 2, none⟩) (fun e => by simp at e; omega) _).cell 1 rfl, (n2.far (p := ⟨p, 2, none⟩) (fun e => by simp at e; omega) _).cell 2 rfl⟩))
      clear hK K hHeld3
      try simp only [Act.put, List.setIfInBounds_toArray, List.set_cons_zero, List.set_cons_succ]
      refine wpAnyH_done (by kernel_rfl) ?_ _
      have HZ := Lib.hid (And.intro n1 (And.intro n2 (And.intro ho3 (And.intro hgr3 hat3)))); clear n1 n2 ho3 hgr3 hat3 mc m0 m1 m2 c0 x0 x1 x2 y0 y1 y2 yc
      go_upto_region 9 with fail
      refine wp_world (fun V => Hid (Mkr V base (Up F w w3) p kind mk (s ++ [newI st (j : Int)]) ∧ Touch F w V) ∧ V.cell? ⟨p, 2, none⟩ = some (.slice A3 (L + 1) c3) ∧ V.heap.size = w3.heap.size) ⟨⟨?_, ?_⟩, (HZ.out.1.set_ 2 _).cell 2 rfl, by simp⟩ ?_
      · refine ⟨A3, c3, _, ?_, (((HW.out.2.1.alloc (.cells #[.slice (some ⟨w.heap.size + 1, 0, none⟩) j j, .int .i64 st, .bool true] 187)).drew).push (F' := Up F w w3) (by decide) HZ.out.2.2.1 HZ.out.2.2.2.1 HZ.out.2.2.2.2 (fun g hg => .inl hg) (fun g hg => ?_) (((HW.out.2.2.2.1.base_le (by omega : base ≤ w.heap.size + 1)).alloc (.cells #[.slice (some ⟨w.heap.size + 1, 0, none⟩) j j, .int .i64 st, .bool true] 187)).drew) (fun g hg => ?_) (fun k hk => by rw [(List.mem_replicate.1 hk).2]; unfold I64; omega) HST.out.1).far_blk HZ.out.1 (by decide) (by decide) _ _, .inl H.out.2.2.1, h4, ?_⟩
        · have := HZ.out.1.set_ 2 (.slice A3 (L + 1) c3)
          rw [List.length_append, H.out.2.2.2.2.2]; exact this
        · rcases HZ.out.2.2.2.2 with e | e
          · exact .inl (HW.out.2.1.foot g (by rw [← e]; exact hg))
          · have hg0 := (HZ.out.2.2.1.lt g hg).2; rw [e] at hg; injection hg with hg; simp at hg; exact .inr ⟨by omega, hg0⟩
        · injection hg with hg; simp only at hg
          subst hg
          exact ⟨.inr ⟨by omega, by omega⟩, fun e => by have := H.out.2.2.2.2.1 _ e; omega⟩
        · show its (l ++ [_]) = _
          unfold its; rw [List.map_append]
          have := H.out.2.2.2.1
          unfold its at this
          rw [this]; simp [ItR.it, newI]
      · exact ((((Touch.ofBelow HW.out.2.2.2.2.1).alloc (.cells #[.slice (some ⟨w.heap.size + 1, 0, none⟩) j j, .int .i64 st, .bool true] 187)).drew.grown HZ.out.2.2.2.1 (fun g hg => HW.out.2.1.foot g hg)).setCell H.out.2.2.1 _)
      rintro V ⟨hV, v0, hVs⟩
      go_wp2_with fail
      go_ret2
      exact ⟨by first | rfl | (congr 3; omega), hV.out.1.mono (fun g hg => Up.more (w1 := w3) (by omega) hg), hV.out.2⟩

end Go.Proofs.Ytpkccpegdpodoaa

/- R.Model: one thing more; the numbers of those that stand so. -/
namespace Go.Proofs.Ytpkccpegdpodoaa
open Go.RowKit

attribute [local go_sem ↓] Go.wp_at_zero Go.wp_at_succ

set_option maxHeartbeats 1600000 in
set_option maxRecDepth 100000 in
theorem more_any (w : World) (base p : Nat) (F : Nat → Prop) (nu kind st : Int) (j : Nat) (mk : Bool) (s : List It) (h : Mdl w base F p nu kind mk s) (hF : ∀ g, F g → g < w.heap.size) (hj : j ≤ 10) (hs : s.length < 100) (hst : I64 st) :
    Calls Try.prog 129 #[.pointer (some ⟨p, 0, none⟩), .int .i64 j, .int .i64 st] w fun e w' => e = .returned (.int .i64 s.length) ∧ Mdl w' base (Up F w w') p nu kind mk (s ++ [⟨List.replicate j (-1), st, true⟩]) ∧ Touch F w w' := by
  obtain ⟨i0, hi, hz0, hz1, hz2⟩ := info_parts infoInt
  obtain ⟨k0, hk0, hy0, hy1, hy2⟩ := info_parts infoItem
  obtain ⟨A, c, l, h1, h2, h3, h4, h5⟩ := h
  have hl : s.length = l.length := by rw [← h5, its_length]
  obtain ⟨L, hL⟩ : ∃ L, l.length = L := ⟨_, rfl⟩
  rw [hL] at h1 hl
  rw [hl] at hs ⊢
  have hplt := h1.lt
  have hbase : base ≤ w.heap.size := by omega
  have HST := Lib.hid hst
  have H := Lib.hid (And.intro h1 (And.intro h2 (And.intro h3 (And.intro h5 (And.intro hF hL))))); clear h1 h2 h3 h5 hF hL hl hst
  go_enter Try.func129, Try.ntmps129
  go_wp2_with fail
  go_loopg [7, 9] j (fun gk lv iv wr => ∃ (k : Nat) (LA : Option Addr) (lc : Nat), k ≤ j ∧ gk = j - k ∧ iv = .int .i64 k ∧ lv = .slice LA k lc ∧ Hid (Own wr w.heap.size 3 LA lc (List.replicate k (-1)) ∧ (List.replicate k (-1 : Int)).length = k) ∧ Below w.heap.size w wr)
  case atStart => exact ⟨0, none, 0, Nat.zero_le _, rfl, rfl, rfl, ⟨Own.nil_, rfl⟩, Below.refl _ _⟩
  case round =>
    obtain ⟨k, LA, lc, hk, rfl, rfl, rfl, hkeep, hbl⟩ := hrel
    have hsz := hbl.size
    by_cases hlt : k < j
    · have hlt2 : (k : Int) < (j : Int) := by omega
      go_wp2_with (at_builtin; go_must (refine wpList_app (α := Int) (n := k) (m := 1) (B := wr.heap.size + 1) (r := [(-1 : Int)]) rfl (.tmp 11) (.tmp 12) _ rfl w.heap.size 3 i0 _ 8 Try.underlying47 hi hz0 hz1 hz2 rfl (by decide) int_one (by rfl) hkeep.out.2 (hkeep.out.1.alloc _) (by rfl) (At.built wr _ _ [(-1 : Int)] rfl (by intro z hz; simp at hz; subst hz; exact (by unfold I64; omega : I64 (-1)))) rfl (by omega) (by simp only [maxLen]; omega) (by simp; omega) ?_); intro A2 c2 w2 hown2 hgr2 hat2; have hb2 : Below w.heap.size w w2 := (hbl.alloc hsz _).grown hgr2 (by simp; omega) (fun g hg => (hkeep.out.1.lt g hg).1); rw [← List.replicate_succ'] at hown2; have HO2 := Lib.hid hown2; clear hown2 hgr2 hat2)
      go_roundg (j - (k + 1))
      case measure => omega
      case rel => exact ⟨k + 1, A2, c2, by omega, rfl, by go_num, rfl, ⟨HO2.out, by simp⟩, hb2⟩
    · obtain rfl : j = k := by omega
      have k1 := H.out.1.fresh hbl
      have k2 := H.out.2.1.fresh hbl
      have c0 := k1.cell 0 (v := .slice A L c) rfl
      have hp1 := k1.lt
      have hcs : (#[Value.slice LA j lc, .int .i64 st, .bool true] : Array Value).toList = flat [(⟨LA, lc, List.replicate j (-1), st, true⟩ : ItR)] := by simp [flat, Flat.cells]
      have HK := Lib.hid (And.intro k1 (And.intro k2 (And.intro hkeep.out.1 hcs))); clear k1 k2 hkeep hcs
      go_wp2_with (at_builtin; go_must (refine wpList_app (α := ItR) (n := L) (m := 1) (B := wr.heap.size + 1) (r := [⟨LA, lc, List.replicate j (-1), st, true⟩]) rfl (.tmp 19) (.tmp 23) _ rfl base 104 k0 _ 40 Try.underlying93 hk0 hy0 hy1 hy2 rfl (by decide) itr_one (by rfl) H.out.2.2.2.2.2 (HK.out.2.1.row.alloc _) (by rfl) (At.built wr #[Value.slice LA j lc, .int .i64 st, .bool true] _ [(⟨LA, lc, List.replicate j (-1), st, true⟩ : ItR)] HK.out.2.2.2 (fun _ _ => trivial)) rfl (by omega) (by simp only [maxLen]; omega) (by simp; omega) ?_); intro A3 c3 w3 ho3 hgr3 hat3; have hs3 := hgr3.size; simp only [World.size_alloc] at hs3; have n1 := (HK.out.1.alloc (.cells #[Value.slice LA j lc, .int .i64 st, .bool true] 104)).grown hgr3 (fun e => own_ne_ty (HK.out.2.1.row.alloc (.cells #[Value.slice LA j lc, .int .i64 st, .bool true] 104)) (HK.out.1.alloc (.cells #[Value.slice LA j lc, .int .i64 st, .bool true] 104)) (by decide) e); have c3' := n1.cell 0 (v := .slice A L c) rfl; have z3 := n1.frozen 0; have HZ := Lib.hid (And.intro n1 (And.intro ho3 (And.intro hgr3 hat3))); clear n1 ho3 hgr3 hat3 c0)
      go_ret
      have hT : Touch F w ((w3.setCell ⟨p, 0, none⟩ (.slice A3 (L + 1) c3))) := (((Touch.ofBelow hbl).alloc (.cells #[Value.slice LA j lc, .int .i64 st, .bool true] 104)).grown HZ.out.2.2.1 (fun g hg => H.out.2.1.foot g hg)).setCell H.out.2.2.1 _
      refine ⟨by first | rfl | (congr 2; omega), ⟨A3, c3, _, ?_, ((HK.out.2.1.alloc (.cells #[Value.slice LA j lc, .int .i64 st, .bool true] 104)).push (F' := Up F w (w3.setCell ⟨p, 0, none⟩ (.slice A3 (L + 1) c3))) (by decide) HZ.out.2.1 HZ.out.2.2.1 HZ.out.2.2.2 (fun g hg => .inl hg) (fun g hg => ?_) ((HK.out.2.2.1.base_le hbase).alloc _) (fun g hg => ?_) (fun k hk => by rw [(List.mem_replicate.1 hk).2]; unfold I64; omega) HST.out).far_blk HZ.out.1 (by decide) (by decide) _ _, .inl H.out.2.2.1, h4, ?_⟩, hT⟩
      · have := HZ.out.1.set_ 0 (.slice A3 (L + 1) c3)
        rw [List.length_append, H.out.2.2.2.2.2]; exact this
      · rcases HZ.out.2.2.2 with e | e
        · exact .inl (H.out.2.1.foot g (by rw [← e]; exact hg))
        · have hg0 := (HZ.out.2.1.lt g hg).2
          rw [e] at hg; injection hg with hg; simp at hg
          exact .inr ⟨by omega, by simp; omega⟩
      · have hg0 := HK.out.2.2.1.lt g hg
        exact ⟨.inr ⟨by omega, by simp; omega⟩, fun e => by have := H.out.2.2.2.2.1 _ e; omega⟩
      · show its (l ++ [_]) = _
        unfold its; rw [List.map_append]
        have := H.out.2.2.2.1
        unfold its at this
        rw [this]; simp [ItR.it]

end Go.Proofs.Ytpkccpegdpodoaa

/- R.Model: those that stand so. -/
namespace Go.Proofs.Ytpkccpegdpodoaa
open Go.RowKit

attribute [local go_sem ↓] Go.wp_at_zero Go.wp_at_succ

theorem are_take (s : List It) (v : Int) (k : Nat) (x : It) (h : s[k]? = some x) : are (s.take (k + 1)) v = are (s.take k) v ++ if x.st = v then [(k : Int)] else [] := by
  unfold are
  rw [List.map_take, List.map_take, rising_snoc (s.map fun x => decide (x.st = v)) k (decide (x.st = v)) (by rw [List.getElem?_map, h]; rfl)]
  by_cases e : x.st = v <;> simp [e]
theorem are_len (s : List It) (v : Int) : (are s v).length ≤ s.length := by
  unfold are; have := rising_length (s.map fun x => decide (x.st = v)); rw [List.length_map] at this; exact this
theorem are_mem {s : List It} {v x : Int} (h : x ∈ are s v) : ∃ n : Nat, x = (n : Int) ∧ stAt s n = some v := by
  unfold are at h
  obtain ⟨n, rfl, hn⟩ := (mem_rising _ _).1 h
  rw [List.getElem?_map] at hn
  cases hs : s[n]? with
  | none => rw [hs] at hn; cases hn
  | some y => rw [hs] at hn; injection hn with hn; exact ⟨n, rfl, by rw [stAt_get hs, of_decide_eq_true hn]⟩
theorem risingFrom_head (p : It → Bool) : ∀ (s : List It) (i : Nat), (risingFrom i (s.map p))[0]? = if s.findIdx p < s.length then some ((i + s.findIdx p : Nat) : Int) else none
  | [], i => by simp [risingFrom]
  | x :: s, i => by
    have ih := risingFrom_head p s (i + 1)
    rw [List.map_cons, risingFrom, List.findIdx_cons]
    cases hp : p x with
    | true => simp
    | false =>
      simp only [Bool.false_eq_true, if_false, cond_false, List.length_cons, ih]
      by_cases hl : s.findIdx p < s.length
      · rw [if_pos hl, if_pos (by omega)]; congr 2; omega
      · rw [if_neg hl, if_neg (by omega)]
theorem are_head (s : List It) : (are s 1)[0]? = if greyAt s < s.length then some (greyAt s : Int) else none := by
  unfold are rising
  rw [risingFrom_head]
  simp [greyAt]

set_option maxHeartbeats 800000 in
set_option maxRecDepth 100000 in
theorem are_any (w : World) (base p : Nat) (F : Nat → Prop) (nu kind v : Int) (mk : Bool) (s : List It) (h : Mdl w base F p nu kind mk s) (hs : s.length ≤ 100) :
    Calls Try.prog 90 #[.pointer (some ⟨p, 0, none⟩), .int .i64 v] w fun e w' => ∃ A c, e = .returned (.slice A (are s v).length c) ∧ Own w' w.heap.size 3 A c (are s v) ∧ Below w.heap.size w w' := by
  obtain ⟨i0, hi, hz0, hz1, hz2⟩ := info_parts infoInt
  obtain ⟨A, c, l, h1, h2, h3, h4, h5⟩ := h
  have hl : s.length = l.length := by rw [← h5, its_length]
  obtain ⟨N, hN⟩ : ∃ N, l.length = N := ⟨_, rfl⟩
  rw [hN] at h1 hl
  rw [hl] at hs
  have c2 := h1.cell 0 (v := .slice A N c) rfl
  have H := Lib.hid (And.intro h2 (And.intro h5 (And.intro hl hN))); clear h1 h2 h5 hl hN
  go_enter Try.func90, Try.ntmps90
  go_wp2_with fail
  clear c2
  go_loopg [5, 13] N (fun gk ov iv wr => ∃ (k m : Nat) (A1 : Option Addr) (c1 : Nat), k ≤ N ∧ gk = N - k ∧ iv = .int .i64 k ∧ ov = .slice A1 m c1 ∧ m ≤ k ∧ Hid (Own wr w.heap.size 3 A1 c1 (are (s.take k) v) ∧ (are (s.take k) v).length = m) ∧ Below w.heap.size w wr)
  case atStart => exact ⟨0, 0, none, 0, Nat.zero_le _, rfl, rfl, rfl, Nat.le_refl _, ⟨Own.nil_, rfl⟩, Below.refl _ _⟩
  case round =>
    obtain ⟨k, m, A1, c1, hk, rfl, rfl, rfl, hm, hkeep, hbl⟩ := hrel
    have hsz := hbl.size
    by_cases hlt : k < N
    · obtain ⟨x, hx⟩ : ∃ x, l[k]? = some x := ⟨_, List.getElem?_eq_getElem (by have := H.out.2.2.2; omega)⟩
      obtain ⟨g, rfl, hg1, hg2, q0, q1, q2⟩ := (H.out.1.fresh hbl).cells hx
      have b0 : (0 : Int) ≤ (k : Int) := by omega
      have b1 : (k : Int) < (N : Int) := by omega
      have hsx : s[k]? = some x.it := by rw [← H.out.2.1]; exact its_get hx
      have hsn := are_take s v k x.it hsx
      obtain ⟨y, hy⟩ : ∃ y, x.st = y := ⟨_, rfl⟩
      have hy' : x.it.st = y := hy
      rw [hy] at q1
      rw [hy'] at hsn
      by_cases he : y = v
      · subst he
        rw [if_pos rfl] at hsn
        have HS := Lib.hid (And.intro hsn hkeep.out); clear hsn hx hsx hkeep hy hy'
        go_wp2_with (at_builtin; go_must (refine wpList_app (α := Int) (n := m) (m := 1) (B := wr.heap.size + 1 + 1) (r := [(k : Int)]) rfl (.tmp 22) (.tmp 24) _ rfl w.heap.size 3 i0 _ 8 Try.underlying47 hi hz0 hz1 hz2 rfl (by decide) int_one (by rfl) HS.out.2.2 ((HS.out.2.1.alloc _).alloc _) (by rfl) ?_ rfl (by omega) (by simp only [maxLen]; omega) (by simp; omega) ?_))
        · have := At.built (wr.alloc (.cells #[.slice x.A x.has.length x.c, .int .i64 y, .bool x.held] 104)) #[.int .i64 (k : Int)] 3 [(k : Int)] rfl (by intro z hz; simp at hz; subst hz; exact (by unfold I64; omega : I64 (k : Int)))
          simpa using this
        intro A2 c2 w2 hown2 hgr2 hat2
        have hbl2 : Below w.heap.size w w2 := ((hbl.alloc hsz _).alloc (by simp; omega) _).grown hgr2 (by simp; omega) (fun g hg => (HS.out.2.1.lt g hg).1)
        have HO2 := Lib.hid hown2; clear hown2 hgr2 hat2
        go_wp2_with fail
        go_roundg (N - (k + 1))
        case measure => omega
        case rel => exact ⟨k + 1, m + 1, A2, c2, by omega, rfl, by go_num, rfl, by omega, ⟨by rw [HS.out.1]; exact HO2.out, by rw [HS.out.1, List.length_append, HS.out.2.2]; rfl⟩, hbl2⟩
      · have d0 : (y == v) = false := by simpa using he
        rw [if_neg he, List.append_nil] at hsn
        have HS := Lib.hid (And.intro hsn hkeep.out); clear hsn hx hsx hkeep hy hy' he
        go_wp2_with fail
        go_roundg (N - (k + 1))
        case measure => omega
        case rel => exact ⟨k + 1, m, A1, c1, by omega, rfl, by go_num, rfl, by omega, ⟨by rw [HS.out.1]; exact HS.out.2.1.alloc _, by rw [HS.out.1]; exact HS.out.2.2⟩, hbl.alloc hsz _⟩
    · obtain rfl : N = k := by omega
      have hk2 := hkeep.out
      rw [List.take_of_length_le (by have := H.out.2.2.1; omega)] at hk2
      have HK := Lib.hid hk2; clear hk2 hkeep
      go_wp2_with fail
      go_ret
      exact ⟨A1, c1, by rw [HK.out.2]; rfl, HK.out.1, hbl⟩

end Go.Proofs.Ytpkccpegdpodoaa

/- R.Model: blacken. -/
namespace Go.Proofs.Ytpkccpegdpodoaa
open Go.RowKit

attribute [local go_sem ↓] Go.wp_at_zero Go.wp_at_succ

set_option maxHeartbeats 1600000 in
set_option maxRecDepth 100000 in
theorem blacken_any (w : World) (base p : Nat) (F : Nat → Prop) (nu kind : Int) (s : List It) (h : Mdl w base F p nu kind true s) (hi : MInv kind true s) :
    Calls Try.prog 133 #[.pointer (some ⟨p, 0, none⟩)] w fun e w' => e = .returned (.bool (decide (greyAt s < s.length))) ∧ Mdl w' base F p nu kind true (if greyAt s < s.length then stepI s else s) ∧ Touch F w w' := by
  have hah := are_head s
  have hal := are_len s 1
  have hs := hi.small
  have HA := Lib.hid (are_any w base p F nu kind 1 true s h hs)
  obtain ⟨q, hq⟩ : ∃ q, are s 1 = q := ⟨_, rfl⟩
  rw [hq] at hah hal HA
  have HQ := Lib.hid hq; clear hq
  have HI := Lib.hid hi; clear hi
  have HM := Lib.hid h; clear h
  by_cases hg : greyAt s < s.length
  · rw [if_pos hg] at hah
    simp only [if_pos hg, decide_eq_true hg]
    obtain ⟨t, ht⟩ : ∃ t, greyAt s = t := ⟨_, rfl⟩
    rw [ht] at hah hg
    have hq1 : 0 < q.length := by
      rcases Nat.eq_zero_or_pos q.length with h0 | h0
      · rw [List.eq_nil_of_length_eq_zero h0] at hah; cases hah
      · exact h0
    have hq0 : ¬ q.length = 0 := by omega
    have HG := Lib.hid (And.intro hah (And.intro ht hg)); clear hah ht hg
    go_enter Try.func133, Try.ntmps133
    go_wp2_with fail
    refine HA.out.mono ?_
    rintro e w1 ⟨QA, qc, rfl, ho1, hb1⟩
    have hs1 := hb1.size
    obtain ⟨gq, rfl, hgq1, hgq2⟩ := ho1.some_ hq1
    have r0 := ho1.cell_int (i := 0) HG.out.1
    have hM1 := HM.out.fresh hb1
    obtain ⟨A, c, l, m1, m2, m3, m4, m5⟩ := hM1
    have hll : l.length = s.length := by rw [← m5, its_length]
    obtain ⟨L, hL⟩ : ∃ L, l.length = L := ⟨_, rfl⟩
    rw [hL] at m1 hll
    obtain ⟨x, hx⟩ : ∃ x, l[t]? = some x := ⟨_, List.getElem?_eq_getElem (by have := HG.out.2.2; omega)⟩
    obtain ⟨g, rfl, hg1, hg2, q0, q1, q2⟩ := m2.cells hx
    have p0 := m1.cell 0 (v := .slice (some ⟨g, 0, none⟩) L c) rfl
    have zz := m2.row.frozen (g := g) rfl (t * 3 + 1)
    have hplt := m1.lt
    have hst := m2.setSt hx (by decide) 2 (by unfold I64; omega)
    have hblk := m1.far (p := ⟨g, t * 3 + 1, none⟩) (fun e => own_ne_ty m2.row m1 (by decide) (by rw [e]; rfl)) (.int .i64 2)
    have hits := its_set l t x { x with st := 2 } (It.setst 2) hx rfl
    rw [m5] at hits
    obtain ⟨hxo, hxF, hxi, hxs⟩ := m2.sub t x hx
    have hgF := m2.foot g rfl
    have hsx : s[t]? = some x.it := by rw [← m5]; exact its_get hx
    obtain ⟨XA, xc, xh, xs, xb⟩ := x
    simp only at q0 q1 q2 hxo hxi hxs hits hst hsx hxF
    have hxr : ∀ z ∈ xh, z = -1 ∨ ∃ n : Nat, z = (n : Int) ∧ n < s.length := fun z hz => (HI.out.refs _ (List.mem_of_getElem? hsx) z hz).imp id (fun ⟨n, e, e2, _⟩ => ⟨n, e, e2⟩)
    have hx10 : xh.length ≤ 10 := HI.out.long _ (List.mem_of_getElem? hsx)
    have hstep : stepI s = shadeL true xh (s.modify t (It.setst 2)) := by unfold stepI; rw [HG.out.2.1, hsx]; simp [ItR.it]
    have hoW := (IntKeep.set m2.row (by decide) (t * 3 + 1) (.int .i64 2))
    have hxo2 := hxo.intKeep hoW
    have hgqF : gq ≠ g := fun e => own_own_ty m2.row ho1 (by decide) g rfl (by rw [e]; rfl)
    have hr2 : (w1.setCell ⟨g, t * 3 + 1, none⟩ (.int .i64 2)).cell? ⟨gq, 0, none⟩ = some (.int .i64 (t : Int)) := by
      rw [World.cell?_setCell_other _ _ _ _ (fun e => by injection e with e1 e2; exact hgqF e1.symm)]; exact r0
    have hlen1 : (l.set t { A := XA, c := xc, has := xh, st := 2, held := xb }).length = L := by rw [List.length_set]; exact hL
    obtain ⟨xn, hxn⟩ : ∃ n, xh.length = n := ⟨_, rfl⟩
    rw [hxn] at q0 hx10
    have hc0 := hst.cells (i := t) (x := { A := XA, c := xc, has := xh, st := 2, held := xb }) (by rw [List.getElem?_set_self (List.getElem?_eq_some_iff.1 hx).1])
    obtain ⟨g', hgg, -, -, u0, -, -⟩ := hc0
    injection hgg with hgg; injection hgg with hgg; subst hgg
    simp only [hxn] at u0
    have t0 : (0 : Int) ≤ (t : Int) := by omega
    have t1 : (t : Int) < (L : Int) := by have := HG.out.2.2; omega
    have ql0 : (0 : Int) < (q.length : Int) := by omega
    have HW := Lib.hid (And.intro hst (And.intro hblk (And.intro hits (And.intro hxo2 (And.intro hxr (And.intro hstep (And.intro hlen1 (And.intro hxn (And.intro hgF (And.intro m3 hb1))))))))))
    have up0 := hblk.cell 0 (v := .slice (some ⟨g, 0, none⟩) L c) rfl
    have hLs := Nat.le_of_eq hll
    clear hll m1 m2 m3 m5 hst hblk hits hxo hxo2 hxr hstep hx hsx hlen1 hxn hxi hxF hoW ho1 hL q2
    go_wp2_with fail
    go_still_tail 9, (by kernel_rfl)
    change wpList _ _ _ _ _ (World.drew _)
    go_wp2_with fail
    refine wp_world (fun W => Blk W p 95 #[.slice (some ⟨g, 0, none⟩) L c, .int .i64 nu, .int .i64 kind, .bool true] ∧ Its W base F 104 (some ⟨g, 0, none⟩) c (l.set t { A := XA, c := xc, has := xh, st := 2, held := xb }) ∧ Own W base 3 XA xc xh ∧ Touch F w W ∧ W.cell? ⟨gq, 0, none⟩ = some (.int .i64 (t : Int)) ∧ W.cell? ⟨g, t * 3, none⟩ = some (.slice XA xn xc)) ⟨HW.out.2.1.drew, HW.out.1.drew, HW.out.2.2.2.1.drew, ((Touch.ofBelow HW.out.2.2.2.2.2.2.2.2.2.2).setCell HW.out.2.2.2.2.2.2.2.2.1 _).drew, hr2, u0⟩ ?_
    rintro W ⟨v1, v2, v3, v4, v5, v6⟩
    have v0 := v1.cell 0 (v := .slice (some ⟨g, 0, none⟩) L c) rfl
    have hMd : Mdl W base F p nu kind true (s.modify t (It.setst 2)) := ⟨_, c, _, by rw [HW.out.2.2.2.2.2.2.1]; exact v1, v2, HW.out.2.2.2.2.2.2.2.2.2.1, m4, HW.out.2.2.1⟩
    have HV := Lib.hid (And.intro hMd (And.intro v3 v4))
    clear v1 v2 v3 v4 hMd up0 hr2 u0 q0 q1 r0 zz p0
    go_quiet (fail)
    go_wp2_with fail
    go_loopg [31] xn (fun gk iv wr => ∃ k : Nat, k ≤ xn ∧ gk = xn - k ∧ iv = .int .i64 k ∧ Hid (Mdl wr base F p nu kind true (shadeL true (xh.take k) (s.modify t (It.setst 2))) ∧ Own wr base 3 XA xc xh) ∧ Touch F w wr)
    case atStart => exact ⟨0, Nat.zero_le _, rfl, rfl, ⟨HV.out.1.drewN _, HV.out.2.1.drewN _⟩, HV.out.2.2.drewN _⟩
    case round =>
      obtain ⟨k, hk, rfl, rfl, hkeep, hT⟩ := hrel
      by_cases hlt : k < xn
      · obtain ⟨z, hz⟩ : ∃ z, xh[k]? = some z := ⟨_, List.getElem?_eq_getElem (by have := HW.out.2.2.2.2.2.2.2.1; omega)⟩
        obtain ⟨gx, rfl, hx1, hx2⟩ := hkeep.out.2.some_ (by have := HW.out.2.2.2.2.2.2.2.1; omega)
        have z0 := hkeep.out.2.cell_int hz
        have b0 : (0 : Int) ≤ (k : Int) := by omega
        have b1 : (k : Int) < (xn : Int) := by omega
        have hzr := HW.out.2.2.2.2.1 z (List.mem_of_getElem? hz)
        have hsn := shadeL_snoc true xh k z (s.modify t (It.setst 2)) hz
        have hll : (shadeL true (xh.take k) (s.modify t (It.setst 2))).length = s.length := by rw [shadeL_length]; simp
        have hsh := rshade_any wr base p F nu kind z true (shadeL true (xh.take k) (s.modify t (It.setst 2))) hkeep.out.1 (by rw [hll]; exact hzr) (by rw [hll]; omega)
        rw [← hsn] at hsh
        have HS := Lib.hid hsh; clear hsh hsn hz hzr hll
        go_wp2_with fail
        refine HS.out.mono ?_
        rintro e w5 ⟨rfl, h5a, h5b, h5c, h5d⟩
        have HF := Lib.hid (And.intro h5a (And.intro (hkeep.out.2.intKeep h5c) (hT.trans h5b))); clear h5a h5b h5c h5d hkeep z0
        go_wp2_with fail
        go_roundg (xn - (k + 1))
        case measure => omega
        case rel => exact ⟨k + 1, by omega, rfl, by go_num, ⟨HF.out.1, HF.out.2.1⟩, HF.out.2.2⟩
      · have hfin := hkeep.out.1
        rw [List.take_of_length_le (by have := HW.out.2.2.2.2.2.2.2.1; omega), ← HW.out.2.2.2.2.2.1] at hfin
        have HF := Lib.hid hfin; clear hfin hkeep
        go_wp2_with fail
        go_ret
        exact ⟨rfl, HF.out, hT⟩
  · rw [if_neg hg] at hah
    simp only [if_neg hg, decide_eq_false hg]
    have hq0 : q = [] := by
      rcases q with _ | ⟨y, q⟩
      · rfl
      · simp at hah
    subst hq0
    clear hah hg
    go_enter Try.func133, Try.ntmps133
    go_wp2_with fail
    refine HA.out.mono ?_
    rintro e w1 ⟨QA, qc, rfl, ho1, hb1⟩
    have HZ := Lib.hid (And.intro (HM.out.fresh hb1) hb1); clear ho1 hb1
    go_wp2_with fail
    go_ret
    exact ⟨rfl, HZ.out.1, Touch.ofBelow HZ.out.2⟩

end Go.Proofs.Ytpkccpegdpodoaa

/- mark: step. -/
namespace Go.Proofs.Ytpkccpegdpodoaa
open Go.RowKit

attribute [local go_sem ↓] Go.wp_at_zero Go.wp_at_succ

theorem egStep1 : ∀ args w, (callFunc 197 args).run Try.prog w = .ok (.enter 197 args) w := fun _ _ => by kernel_rfl
theorem step1_any (a : Value) (x : Int) (b : Bool) (w : World) : Calls Try.prog 197 #[.agg #[a, .int .i64 x, .bool b]] w fun e w' => e = .returned (.bool (decide (x = 1))) ∧ Below w.heap.size w w' := by
  by_cases h : x = 1
  · subst h
    go_enter Try.func197, Try.ntmps197
    go_wp2
    go_ret
    exact ⟨rfl, (Below.refl _ _).alloc (Nat.le_refl _) _⟩
  · have d0 : (x == 1) = false := by simpa using h
    have HH := Lib.hid h; clear h
    go_enter Try.func197, Try.ntmps197
    go_wp2
    go_ret
    exact ⟨by rw [decide_eq_false HH.out]; rfl, (Below.refl _ _).alloc (Nat.le_refl _) _⟩

theorem any_snocJ {α : Type} (p : α → Bool) (l : List α) (k : Nat) (x : α) (h : l[k]? = some x) : (l.take (k + 1)).any p = ((l.take k).any p || p x) := by
  rw [List.take_add_one, h]; simp [List.any_append]

def gIdx (s : List It) : Int := if greyAt s < s.length then (greyAt s : Int) else -1

set_option maxHeartbeats 800000 in
set_option maxRecDepth 100000 in
theorem indexThing_any (w : World) (base N c : Nat) (F : Nat → Prop) (A : Option Addr) (l : List ItR) (s : List It) (h : Its w base F 187 A c l) (hl : its l = s) (hn : l.length = N) (hs : N ≤ 100) :
    Calls Try.prog 196 #[.slice A N c, .func (.func 197) #[] #[]] w fun e w' => e = .returned (.int .i64 (gIdx s)) ∧ Below w.heap.size w w' := by
  have H := Lib.hid (And.intro h (And.intro hl hn)); clear h hl hn
  have HE := Lib.hid egStep1
  have eg := egStep1
  go_enter Try.func196, Try.ntmps196
  go_wp2_with fail
  go_loopg [8] N (fun gk i wr => ∃ k : Nat, k ≤ N ∧ gk = N - k ∧ i = .int .i64 k ∧ Hid ((s.take k).any (fun x => decide (x.st = 1)) = false) ∧ Below w.heap.size w wr)
  case atStart => exact ⟨0, Nat.zero_le _, rfl, rfl, by simp [Hid], Below.refl _ _⟩
  case round =>
    obtain ⟨k, hk, rfl, rfl, hno, hbl⟩ := hrel
    have hsz := hbl.size
    by_cases hlt : k < N
    · obtain ⟨x, hx⟩ : ∃ x, l[k]? = some x := ⟨_, List.getElem?_eq_getElem (by have := H.out.2.2; omega)⟩
      obtain ⟨g, rfl, hg1, hg2, q0, q1, q2⟩ := (H.out.1.fresh hbl).cells hx
      have hsx : s[k]? = some x.it := by rw [← H.out.2.1]; exact its_get hx
      have hk0 : (0 : Int) ≤ (k : Int) := by omega
      have hk1 : (k : Int) < (N : Int) := by omega
      obtain ⟨y, hy⟩ : ∃ y, x.st = y := ⟨_, rfl⟩
      rw [hy] at q1
      have hcall := step1_any (.slice x.A x.has.length x.c) y x.held
      by_cases he : y = 1
      · have hfin : greyAt s = k ∧ k < s.length := by
          have hh := idxI_hit (fun x : It => decide (x.st = 1)) s k x.it hsx (by show decide (x.st = 1) = true; rw [hy]; simpa using he) hno.out
          have hany : s.any (fun x : It => decide (x.st = 1)) = true := List.any_eq_true.2 ⟨_, List.mem_of_getElem? hsx, by show decide (x.st = 1) = true; rw [hy]; simpa using he⟩
          unfold idxI at hh
          rw [if_pos hany] at hh
          have hgr : s.findIdx (fun x : It => decide (x.st = 1)) = greyAt s := rfl
          exact ⟨by omega, (List.getElem?_eq_some_iff.1 hsx).1⟩
        have HC := Lib.hid (And.intro hcall hfin); clear hcall hfin hx hsx hy
        subst he
        go_wp2_with (go_at_fn 197; refine Calls.mono (HC.out.1 _) ?_; rintro e w' ⟨rfl, hb'⟩; rw [decide_eq_true rfl])
        go_ret
        exact ⟨by unfold gIdx; rw [HC.out.2.1, if_pos HC.out.2.2]; rfl, hbl.trans (hb'.mono hsz)⟩
      · have hsn := any_snocJ (fun x : It => decide (x.st = 1)) s k x.it hsx
        have hp : decide (x.it.st = 1) = false := by show decide (x.st = 1) = false; rw [hy]; simpa using he
        rw [hno.out, hp] at hsn
        have HC := Lib.hid (And.intro hcall (And.intro hsn (decide_eq_false he))); clear hcall hsn hx hsx hy hp he
        go_wp2_with (go_at_fn 197; refine Calls.mono (HC.out.1 _) ?_; rintro e w' ⟨rfl, hb'⟩; rw [HC.out.2.2])
        go_roundg (N - (k + 1))
        case measure => omega
        case rel => exact ⟨k + 1, by omega, rfl, by go_num, HC.out.2.1, hbl.trans (hb'.mono hsz)⟩
    · have hfin : ¬ greyAt s < s.length := by
        have h1 := hno.out
        have : s.length = l.length := by rw [← H.out.2.1, its_length]
        rw [List.take_of_length_le (by have := H.out.2.2; omega)] at h1
        intro hg
        have h2 := List.any_eq_false.1 h1 (s[greyAt s]) (List.getElem_mem hg)
        have h3 := List.findIdx_getElem (p := fun x : It => decide (x.st = 1)) (w := hg)
        exact h2 h3
      have HN := Lib.hid hfin; clear hfin hno
      go_wp2_with fail
      go_ret
      exact ⟨by unfold gIdx; rw [if_neg HN.out]; rfl, hbl⟩

set_option maxHeartbeats 1600000 in
set_option maxRecDepth 100000 in
theorem step_any (w : World) (base p : Nat) (F : Nat → Prop) (kind : Int) (s : List It) (h : Mkr w base F p kind true s) (hi : MInv kind true s) :
    Calls Try.prog 179 #[.pointer (some ⟨p, 0, none⟩)] w fun e w' => e = .returned (.bool (decide (greyAt s < s.length))) ∧ Mkr w' base F p kind true (if greyAt s < s.length then stepI s else s) ∧ Touch F w w' := by
  have hs := hi.small
  have HI := Lib.hid hi; clear hi
  have HM := Lib.hid h
  obtain ⟨A, c, l, h1, h2, h3, h4, h5⟩ := h
  obtain ⟨L, hL⟩ : ∃ L, l.length = L := ⟨_, rfl⟩
  have hll : s.length = l.length := by rw [← h5, its_length]
  rw [hL] at h1 hll
  have hix := Lib.hid (indexThing_any w base L c F A l s h2 h5 hL (by omega))
  have c2 := h1.cell 2 (v := .slice A L c) rfl
  have H := Lib.hid (And.intro h1 (And.intro h2 (And.intro h3 (And.intro h5 (And.intro hL hll))))); clear h1 h2 h3 h5 hL hll
  by_cases hg : greyAt s < s.length
  · have hgi : gIdx s = (greyAt s : Int) := if_pos hg
    rw [hgi] at hix
    simp only [if_pos hg, decide_eq_true hg]
    obtain ⟨t, ht⟩ : ∃ t, greyAt s = t := ⟨_, rfl⟩
    rw [ht] at hix hg
    have HG := Lib.hid (And.intro ht hg); clear ht hg hgi
    have ht0 : ¬ (t : Int) < 0 := by omega
    go_enter Try.func179, Try.ntmps179
    go_wp2_with fail
    refine hix.out.mono ?_
    rintro e w1 ⟨rfl, hb1⟩
    have hs1 := hb1.size
    clear c2
    have m1 := H.out.1.fresh hb1
    have m2 := H.out.2.1.fresh hb1
    obtain ⟨x, hx⟩ : ∃ x, l[t]? = some x := ⟨_, List.getElem?_eq_getElem (by have := HG.out.2; have := H.out.2.2.2.2.1; have := H.out.2.2.2.2.2; omega)⟩
    obtain ⟨g, rfl, hg1, hg2, q0, q1, q2⟩ := m2.cells hx
    have p0 := m1.cell 2 (v := .slice (some ⟨g, 0, none⟩) L c) rfl
    have zz := m2.row.frozen (g := g) rfl (t * 3 + 1)
    have hplt := m1.lt
    have hst := m2.setSt hx (by decide) 2 (by unfold I64; omega)
    have hblk := m1.far (p := ⟨g, t * 3 + 1, none⟩) (fun e => own_ne_ty m2.row m1 (by decide) (by rw [e]; rfl)) (.int .i64 2)
    have hits := its_set l t x { x with st := 2 } (It.setst 2) hx rfl
    rw [H.out.2.2.2.1] at hits
    obtain ⟨hxo, hxF, hxi, hxs⟩ := m2.sub t x hx
    have hgF := m2.foot g rfl
    have hsx : s[t]? = some x.it := by rw [← H.out.2.2.2.1]; exact its_get hx
    obtain ⟨XA, xc, xh, xs, xb⟩ := x
    simp only at q0 q1 q2 hxo hxi hxs hits hst hsx hxF
    have hxr : ∀ z ∈ xh, z = -1 ∨ ∃ n : Nat, z = (n : Int) ∧ n < s.length := fun z hz => (HI.out.refs _ (List.mem_of_getElem? hsx) z hz).imp id (fun ⟨n, e, e2, _⟩ => ⟨n, e, e2⟩)
    have hx10 : xh.length ≤ 10 := HI.out.long _ (List.mem_of_getElem? hsx)
    have hstep : stepI s = shadeL true xh (s.modify t (It.setst 2)) := by unfold stepI; rw [HG.out.1, hsx]; simp [ItR.it]
    have hxo2 := hxo.intKeep (IntKeep.set m2.row (by decide) (t * 3 + 1) (.int .i64 2))
    have hlen1 : (l.set t { A := XA, c := xc, has := xh, st := 2, held := xb }).length = L := by rw [List.length_set]; exact H.out.2.2.2.2.1
    obtain ⟨xn, hxn⟩ : ∃ n, xh.length = n := ⟨_, rfl⟩
    rw [hxn] at q0 hx10
    have hc0 := hst.cells (i := t) (x := { A := XA, c := xc, has := xh, st := 2, held := xb }) (by rw [List.getElem?_set_self (List.getElem?_eq_some_iff.1 hx).1])
    obtain ⟨g', hgg, -, -, u0, -, -⟩ := hc0
    injection hgg with hgg; injection hgg with hgg; subst hgg
    simp only [hxn] at u0
    have t0 : (0 : Int) ≤ (t : Int) := by omega
    have t1 : (t : Int) < (L : Int) := by have := HG.out.2; have := H.out.2.2.2.2.2; omega
    have HW := Lib.hid (And.intro hst (And.intro hblk (And.intro hits (And.intro hxo2 (And.intro hxr (And.intro hstep (And.intro hlen1 (And.intro hxn (And.intro hgF (And.intro H.out.2.2.1 hb1))))))))))
    have up0 := hblk.cell 2 (v := .slice (some ⟨g, 0, none⟩) L c) rfl
    clear m1 m2 hst hblk hits hxo hxo2 hxr hstep hx hsx hlen1 hxn hxi hxF q2
    go_wp2_with fail
    refine wp_world (fun W => Blk W p 182 #[.int .i64 kind, .bool true, .slice (some ⟨g, 0, none⟩) L c] ∧ Its W base F 187 (some ⟨g, 0, none⟩) c (l.set t { A := XA, c := xc, has := xh, st := 2, held := xb }) ∧ Own W base 3 XA xc xh ∧ Touch F w W) ⟨HW.out.2.1, HW.out.1, HW.out.2.2.2.1, ((Touch.ofBelow HW.out.2.2.2.2.2.2.2.2.2.2).setCell HW.out.2.2.2.2.2.2.2.2.1 _)⟩ ?_
    rintro W ⟨v1, v2, v3, v4⟩
    have hMd : Mkr W base F p kind true (s.modify t (It.setst 2)) := ⟨_, c, _, by rw [HW.out.2.2.2.2.2.2.1]; exact v1, v2, HW.out.2.2.2.2.2.2.2.2.2.1, h4, HW.out.2.2.1⟩
    have HV := Lib.hid (And.intro hMd (And.intro v3 v4))
    clear v1 v2 v3 v4 hMd up0 u0 q0 q1 zz p0
    go_loopg [29] xn (fun gk iv wr => ∃ k : Nat, k ≤ xn ∧ gk = xn - k ∧ iv = .int .i64 k ∧ Hid (Mkr wr base F p kind true (shadeL true (xh.take k) (s.modify t (It.setst 2))) ∧ Own wr base 3 XA xc xh) ∧ Touch F w wr)
    case atStart => exact ⟨0, Nat.zero_le _, rfl, rfl, ⟨HV.out.1, HV.out.2.1⟩, HV.out.2.2⟩
    case round =>
      obtain ⟨k, hk, rfl, rfl, hkeep, hT⟩ := hrel
      by_cases hlt : k < xn
      · obtain ⟨z, hz⟩ : ∃ z, xh[k]? = some z := ⟨_, List.getElem?_eq_getElem (by have := HW.out.2.2.2.2.2.2.2.1; omega)⟩
        obtain ⟨gx, rfl, hx1, hx2⟩ := hkeep.out.2.some_ (by have := HW.out.2.2.2.2.2.2.2.1; omega)
        have z0 := hkeep.out.2.cell_int hz
        have b0 : (0 : Int) ≤ (k : Int) := by omega
        have b1 : (k : Int) < (xn : Int) := by omega
        have hzr := HW.out.2.2.2.2.1 z (List.mem_of_getElem? hz)
        have hsn := shadeL_snoc true xh k z (s.modify t (It.setst 2)) hz
        have hll : (shadeL true (xh.take k) (s.modify t (It.setst 2))).length = s.length := by rw [shadeL_length]; simp
        have hsh := mshade_any wr base p F kind z true (shadeL true (xh.take k) (s.modify t (It.setst 2))) hkeep.out.1 (by rw [hll]; exact hzr) (by rw [hll]; omega)
        rw [← hsn] at hsh
        have HS := Lib.hid hsh; clear hsh hsn hz hzr hll
        go_wp2_with fail
        refine HS.out.mono ?_
        rintro e w5 ⟨rfl, h5a, h5b, h5c, h5d⟩
        have HF := Lib.hid (And.intro h5a (And.intro (hkeep.out.2.intKeep h5c) (hT.trans h5b))); clear h5a h5b h5c h5d hkeep z0
        go_wp2_with fail
        go_roundg (xn - (k + 1))
        case measure => omega
        case rel => exact ⟨k + 1, by omega, rfl, by go_num, ⟨HF.out.1, HF.out.2.1⟩, HF.out.2.2⟩
      · have hfin := hkeep.out.1
        rw [List.take_of_length_le (by have := HW.out.2.2.2.2.2.2.2.1; omega), ← HW.out.2.2.2.2.2.1] at hfin
        have HF := Lib.hid hfin; clear hfin hkeep
        go_wp2_with fail
        go_ret
        exact ⟨rfl, HF.out, hT⟩
  · have hgi : gIdx s = -1 := if_neg hg
    rw [hgi] at hix
    simp only [if_neg hg, decide_eq_false hg]
    clear hg hgi
    go_enter Try.func179, Try.ntmps179
    go_wp2_with fail
    refine hix.out.mono ?_
    rintro e w1 ⟨rfl, hb1⟩
    have HZ := Lib.hid (And.intro (HM.out.fresh hb1) hb1); clear hb1
    go_wp2_with fail
    go_ret
    exact ⟨rfl, HZ.out.1, Touch.ofBelow HZ.out.2⟩

end Go.Proofs.Ytpkccpegdpodoaa

/- mark: begin, steps, end. -/
namespace Go.Proofs.Ytpkccpegdpodoaa
open Go.RowKit

attribute [local go_sem ↓] Go.wp_at_zero Go.wp_at_succ

theorem MkrA.touchless {w w' : World} {base p : Nat} {F : Nat → Prop} {kind : Int} {mk : Bool} {A : Option Addr} {c : Nat} {s : List It} (h : MkrA w base F p kind mk A c s) (hb : Below w.heap.size w w') : MkrA w' base F p kind mk A c s := by
  obtain ⟨l, h1, h2, h3, h4, h5⟩ := h
  exact ⟨l, h1.fresh hb, h2.fresh hb, h3, h4, h5⟩

theorem begin_no (w : World) (base p : Nat) (F : Nat → Prop) (kind : Int) (s : List It) (h : Mkr w base F p kind true s) :
    Calls Try.prog 125 #[.pointer (some ⟨p, 0, none⟩)] w fun e w' => e = .returned (.tuple #[.int .i64 0, .int .i64 8]) ∧ w = w' := by
  obtain ⟨A, c, l, h1, h2, h3, h4, h5⟩ := h
  have c1 := h1.cell 1 (v := .bool true) rfl
  clear h1 h2 h5
  go_enter Try.func125, Try.ntmps125
  go_wp2
  go_ret2
  exact ⟨rfl, rfl⟩

set_option maxHeartbeats 1600000 in
set_option maxRecDepth 100000 in
theorem begin_yes (w : World) (base p : Nat) (F : Nat → Prop) (kind : Int) (s : List It) (h : Mkr w base F p kind false s) (hs : s.length ≤ 100) :
    Calls Try.prog 125 #[.pointer (some ⟨p, 0, none⟩)] w fun e w' => e = .returned (.tuple #[.int .i64 (heldN s), .int .i64 0]) ∧ Mkr w' base F p kind true (beginI s) ∧ Touch F w w' := by
  obtain ⟨A, c, l, h1, h2, h3, h4, h5⟩ := h
  have hll : s.length = l.length := by rw [← h5, its_length]
  obtain ⟨N, hN⟩ : ∃ N, l.length = N := ⟨_, rfl⟩
  rw [hN] at h1 hll
  have c1 := h1.cell 1 (v := .bool false) rfl
  have z1 := h1.frozen 1
  have b1 := h1.set_ 1 (.bool true)
  have b2 := h2.far_blk h1 (by decide) (by decide) 1 (.bool true)
  have c2 := b1.cell 2 (v := .slice A N c) rfl
  have hA0 : MkrA (w.setCell ⟨p, 1, none⟩ (.bool true)) base F p kind true A c (beginK 0 s) := ⟨l, by rw [hN]; exact b1, b2, h3, h4, by rw [beginK_zero]; exact h5⟩
  have hN100 : N ≤ 100 := by omega
  have H := Lib.hid (And.intro hA0 (And.intro hll ((Touch.refl F w).setCell (p := ⟨p, 1, none⟩) h3 (.bool true)))); clear h1 h2 h5 hll hN b1 b2 hA0
  go_enter Try.func125, Try.ntmps125
  go_wp2_with fail
  clear c1 c2 z1
  go_loopg [4, 19] N (fun gk mv iv wr => ∃ (k m : Nat), k ≤ N ∧ gk = N - k ∧ iv = .int .i64 k ∧ mv = .int .i64 m ∧ m ≤ k ∧ Hid (MkrA wr base F p kind true A c (beginK k s) ∧ heldN (s.take k) = m) ∧ Touch F w wr)
  case atStart => exact ⟨0, 0, Nat.zero_le _, rfl, rfl, rfl, Nat.le_refl _, ⟨H.out.1, rfl⟩, H.out.2.2⟩
  case round =>
    obtain ⟨k, m, hk, rfl, rfl, rfl, hm, hkeep, hT⟩ := hrel
    by_cases hlt : k < N
    · obtain ⟨lk, k1, k2, k3, k4, k5⟩ := hkeep.out.1
      have hlk : lk.length = N := by rw [← its_length, k5, beginK_length, H.out.2.1]
      obtain ⟨x, hx⟩ : ∃ x, lk[k]? = some x := ⟨_, List.getElem?_eq_getElem (by omega)⟩
      obtain ⟨g, rfl, hg1, hg2, q0, q1, q2⟩ := k2.cells hx
      have hsx0 : ∃ y, s[k]? = some y := ⟨_, List.getElem?_eq_getElem (by have := H.out.2.1; omega)⟩
      obtain ⟨y, hsx⟩ := hsx0
      have hyx : y = x.it := by
        have h1 := beginK_get k s k hsx
        rw [if_neg (by omega), ← k5, its_get hx] at h1
        injection h1 with h1; exact h1.symm
      have hst := beginK_step k s hsx
      have hhn := heldN_step s k hsx
      rw [hyx] at hst hhn
      have b0 : (0 : Int) ≤ (k : Int) := by omega
      have b1 : (k : Int) < (N : Int) := by omega
      obtain ⟨xb, hxb⟩ : ∃ b, x.held = b := ⟨_, rfl⟩
      have hxb' : x.it.held = xb := hxb
      rw [hxb] at q2
      rw [hxb'] at hst hhn
      have HX := Lib.hid (And.intro hst (And.intro hhn (And.intro hkeep.out.1 hkeep.out.2))); clear k1 k2 k5 hlk hx hsx hyx hst hhn hkeep hxb hxb'
      cases xb with
      | false =>
        go_wp2_with fail
        go_roundg (N - (k + 1))
        case measure => omega
        case rel => exact ⟨k + 1, m, by omega, rfl, by go_num, rfl, by omega, ⟨by rw [HX.out.1]; exact HX.out.2.2.1.touchless ((Below.refl _ _).alloc (Nat.le_refl _) _), by rw [HX.out.2.1, HX.out.2.2.2]; rfl⟩, hT.alloc _⟩
      | true =>
        go_wp2_with fail
        refine (mshadeA_any _ base p F kind (k : Int) true (some ⟨g, 0, none⟩) c (beginK k s) (HX.out.2.2.1.touchless ((Below.refl _ _).alloc (Nat.le_refl _) _)) (.inr ⟨k, rfl, by rw [beginK_length, H.out.2.1]; exact hlt⟩) (by rw [beginK_length, H.out.2.1]; omega)).mono ?_
        rintro e w5 ⟨rfl, h5a, h5b, h5c, h5d⟩
        have HF := Lib.hid (And.intro h5a ((hT.alloc _).trans h5b)); clear h5a h5b h5c h5d q0 q1 q2
        go_wp2_with fail
        go_roundg (N - (k + 1))
        case measure => omega
        case rel => exact ⟨k + 1, m + 1, by omega, rfl, by go_num, by go_num, by omega, ⟨by rw [HX.out.1]; exact HF.out.1, by rw [HX.out.2.1, HX.out.2.2.2]; rfl⟩, HF.out.2⟩
    · obtain rfl : N = k := by omega
      have hf1 := hkeep.out.1
      have hf2 := hkeep.out.2
      rw [List.take_of_length_le (by have := H.out.2.1; omega)] at hf2
      rw [← H.out.2.1, beginK_all] at hf1
      have HF := Lib.hid (And.intro hf1 hf2); clear hf1 hf2 hkeep
      go_wp2_with fail
      go_ret2
      exact ⟨by rw [HF.out.2]; rfl, ⟨A, c, HF.out.1⟩, hT⟩

theorem steps_no (w : World) (base p : Nat) (F : Nat → Prop) (kind n : Int) (s : List It) (h : Mkr w base F p kind false s) :
    Calls Try.prog 126 #[.pointer (some ⟨p, 0, none⟩), .int .i64 n] w fun e w' => e = .returned (.tuple #[.int .i64 0, .int .i64 8]) ∧ w = w' := by
  obtain ⟨A, c, l, h1, h2, h3, h4, h5⟩ := h
  have c1 := h1.cell 1 (v := .bool false) rfl
  clear h1 h2 h5
  go_enter Try.func126, Try.ntmps126
  go_wp2
  go_ret2
  exact ⟨rfl, rfl⟩
theorem steps_neg (w : World) (base p : Nat) (F : Nat → Prop) (kind n : Int) (s : List It) (h : Mkr w base F p kind true s) (hn : n < 0) :
    Calls Try.prog 126 #[.pointer (some ⟨p, 0, none⟩), .int .i64 n] w fun e w' => e = .returned (.tuple #[.int .i64 0, .int .i64 1]) ∧ w = w' := by
  obtain ⟨A, c, l, h1, h2, h3, h4, h5⟩ := h
  have c1 := h1.cell 1 (v := .bool true) rfl
  clear h1 h2 h5
  go_enter Try.func126, Try.ntmps126
  go_wp2
  go_ret2
  exact ⟨rfl, rfl⟩

theorem stepsI_one (n : Nat) (s : List It) (h : greyAt s < s.length) : stepsI (n + 1) s = ((stepsI n (stepI s)).1, (stepsI n (stepI s)).2 + 1) := by
  show (if greyAt s < s.length then ((stepsI n (stepI s)).1, (stepsI n (stepI s)).2 + 1) else (s, 0)) = _
  rw [if_pos h]
theorem stepsI_none (n : Nat) (s : List It) (h : ¬ greyAt s < s.length) : stepsI n s = (s, 0) := by
  cases n with
  | zero => rfl
  | succ n =>
    show (if greyAt s < s.length then ((stepsI n (stepI s)).1, (stepsI n (stepI s)).2 + 1) else (s, 0)) = _
    rw [if_neg h]

set_option maxHeartbeats 1600000 in
set_option maxRecDepth 100000 in
theorem steps_yes (w : World) (base p n : Nat) (F : Nat → Prop) (kind : Int) (s : List It) (h : Mkr w base F p kind true s) (hi : MInv kind true s) (hn : n ≤ 9223372036854775807) :
    Calls Try.prog 126 #[.pointer (some ⟨p, 0, none⟩), .int .i64 n] w fun e w' => e = .returned (.tuple #[.int .i64 (stepsI n s).2, .int .i64 0]) ∧ Mkr w' base F p kind true (stepsI n s).1 ∧ Touch F w w' := by
  have HM := Lib.hid (And.intro h hi)
  obtain ⟨A, c, l, h1, h2, h3, h4, h5⟩ := h
  have c1 := h1.cell 1 (v := .bool true) rfl
  clear h1 h2 h5 hi
  have hn0 : (0 : Int) ≤ (n : Int) := by omega
  go_enter Try.func126, Try.ntmps126
  go_wp2_with fail
  clear c1
  go_loopg [6] (pot s) (fun gk mv wr => ∃ (k : Nat) (s1 : List It), k ≤ n ∧ mv = .int .i64 k ∧ gk = pot s1 ∧ Hid (Mkr wr base F p kind true s1 ∧ MInv kind true s1 ∧ (stepsI n s).1 = (stepsI (n - k) s1).1 ∧ (stepsI n s).2 = k + (stepsI (n - k) s1).2) ∧ Touch F w wr)
  case atStart => exact ⟨0, s, Nat.zero_le _, rfl, rfl, ⟨HM.out.1, HM.out.2, rfl, by simp⟩, Touch.refl _ _⟩
  case round =>
    obtain ⟨k, s1, hk, rfl, rfl, hkeep, hT⟩ := hrel
    by_cases hlt : k < n
    · have hlt2 : (k : Int) < (n : Int) := by omega
      by_cases hg : greyAt s1 < s1.length
      · have hstep := step_any wr base p F kind s1 hkeep.out.1 hkeep.out.2.1
        simp only [if_pos hg, decide_eq_true hg] at hstep
        have hpot := pot_step hg
        have hone := stepsI_one (n - (k + 1)) s1 hg
        have hnk : n - k = n - (k + 1) + 1 := by omega
        have hinv := hkeep.out.2.1.stepI hg
        obtain ⟨s2, hs2⟩ : ∃ s2, stepI s1 = s2 := ⟨_, rfl⟩
        rw [hs2] at hstep hpot hone hinv
        have e1 := hkeep.out.2.2.1
        have e2 := hkeep.out.2.2.2
        rw [hnk, hone] at e1 e2
        simp only at e1 e2
        have HS := Lib.hid (And.intro hstep (And.intro e1 (And.intro e2 hinv))); clear hstep hone hnk hs2 e1 e2 hg hinv hkeep
        go_wp2_with fail
        refine HS.out.1.mono ?_
        rintro e w5 ⟨rfl, h5a, h5b⟩
        have HF := Lib.hid (And.intro h5a (hT.trans h5b)); clear h5a h5b
        go_wp2_with fail
        go_roundg (pot s2)
        case measure => exact hpot
        case rel => exact ⟨k + 1, s2, by omega, by go_num, rfl, ⟨HF.out.1, HS.out.2.2.2, HS.out.2.1, by have := HS.out.2.2.1; omega⟩, HF.out.2⟩
      · have hstep := step_any wr base p F kind s1 hkeep.out.1 hkeep.out.2.1
        simp only [if_neg hg, decide_eq_false hg] at hstep
        have hone := stepsI_none (n - k) s1 hg
        have e1 := hkeep.out.2.2.1
        have e2 := hkeep.out.2.2.2
        rw [hone] at e1 e2
        simp only [Nat.add_zero] at e1 e2
        have HS := Lib.hid (And.intro hstep (And.intro e1 e2)); clear hstep hone e1 e2 hg hkeep
        go_wp2_with fail
        refine HS.out.1.mono ?_
        rintro e w5 ⟨rfl, h5a, h5b⟩
        have HF := Lib.hid (And.intro h5a (hT.trans h5b)); clear h5a h5b
        go_wp2_with fail
        go_ret2
        exact ⟨by rw [HS.out.2.2]; rfl, by rw [HS.out.2.1]; exact HF.out.1, HF.out.2⟩
    · obtain rfl : n = k := by omega
      have e1 := hkeep.out.2.2.1
      have e2 := hkeep.out.2.2.2
      rw [Nat.sub_self] at e1 e2
      simp only [stepsI, Nat.add_zero] at e1 e2
      have HF := Lib.hid (And.intro hkeep.out.1 (And.intro e1 e2)); clear e1 e2 hkeep
      go_wp2_with fail
      go_ret2
      exact ⟨by rw [HF.out.2.2]; rfl, by rw [HF.out.2.1]; exact HF.out.1, hT⟩

end Go.Proofs.Ytpkccpegdpodoaa

/- mark: end. -/
namespace Go.Proofs.Ytpkccpegdpodoaa
open Go.RowKit

attribute [local go_sem ↓] Go.wp_at_zero Go.wp_at_succ

theorem end_no (w : World) (base p : Nat) (F : Nat → Prop) (kind : Int) (s : List It) (h : Mkr w base F p kind false s) :
    Calls Try.prog 127 #[.pointer (some ⟨p, 0, none⟩)] w fun e w' => e = .returned (.tuple #[.int .i64 0, .int .i64 8]) ∧ w = w' := by
  obtain ⟨A, c, l, h1, h2, h3, h4, h5⟩ := h
  have c1 := h1.cell 1 (v := .bool false) rfl
  clear h1 h2 h5
  go_enter Try.func127, Try.ntmps127
  go_wp2
  go_ret2
  exact ⟨rfl, rfl⟩

theorem sweep1_white {x : It} (h : x.st = 0) : sweep1 x = ⟨[], 3, false⟩ := if_pos h
theorem sweep1_black {x : It} (h : x.st = 2) : sweep1 x = x.setst 0 := by unfold sweep1; rw [if_neg (by omega), if_pos h]
theorem sweep1_other {x : It} (h0 : x.st ≠ 0) (h2 : x.st ≠ 2) : sweep1 x = x := by unfold sweep1; rw [if_neg h0, if_neg h2]
theorem sweepK_id {k : Nat} {s : List It} {x : It} (h : s[k]? = some x) (hf : sweep1 x = x) : sweepK (k + 1) s = sweepK k s := by
  rw [sweepK_step k s id h hf.symm]
  apply List.ext_getElem?; intro i
  rw [get_modify]
  split
  · cases (sweepK k s)[i]? <;> rfl
  · rfl

set_option maxHeartbeats 1600000 in
set_option maxRecDepth 100000 in
theorem end_yes (w : World) (base p : Nat) (F : Nat → Prop) (kind : Int) (s : List It) (h : Mkr w base F p kind true s) (hi : MInv kind true s) :
    Calls Try.prog 127 #[.pointer (some ⟨p, 0, none⟩)] w fun e w' => e = .returned (.tuple #[.int .i64 (endN s), .int .i64 0]) ∧ Mkr w' base F p kind false (endI s) ∧ Touch F w w' := by
  have HM := Lib.hid (And.intro h hi)
  obtain ⟨A, c, l, h1, h2, h3, h4, h5⟩ := h
  have c1 := h1.cell 1 (v := .bool true) rfl
  clear h1 h2 h5 hi
  go_enter Try.func127, Try.ntmps127
  go_wp2_with fail
  clear c1
  go_loopg [] (pot s) (fun gk wr => ∃ (s1 : List It), gk = pot s1 ∧ Hid (Mkr wr base F p kind true s1 ∧ MInv kind true s1 ∧ (stepsI (pot s) s).1 = (stepsI (pot s1) s1).1) ∧ Touch F w wr)
  case atStart => exact ⟨s, rfl, ⟨HM.out.1, HM.out.2, rfl⟩, Touch.refl _ _⟩
  case round =>
    obtain ⟨s1, rfl, hkeep, hT⟩ := hrel
    by_cases hg : greyAt s1 < s1.length
    · have hstep := step_any wr base p F kind s1 hkeep.out.1 hkeep.out.2.1
      simp only [if_pos hg, decide_eq_true hg] at hstep
      have hpot := pot_step hg
      have hone := stepsAll_step hg
      have hinv := hkeep.out.2.1.stepI hg
      obtain ⟨s2, hs2⟩ : ∃ s2, stepI s1 = s2 := ⟨_, rfl⟩
      rw [hs2] at hstep hpot hone hinv
      have HS := Lib.hid (And.intro hstep (And.intro (hkeep.out.2.2.trans hone) hinv)); clear hstep hone hs2 hg hinv hkeep
      go_wp2_with fail
      refine HS.out.1.mono ?_
      rintro e w5 ⟨rfl, h5a, h5b⟩
      have HF := Lib.hid (And.intro h5a (hT.trans h5b)); clear h5a h5b
      go_wp2_with fail
      go_roundg (pot s2)
      case measure => exact hpot
      case rel => exact ⟨s2, rfl, ⟨HF.out.1, HS.out.2.2, HS.out.2.1⟩, HF.out.2⟩
    · have hstep := step_any wr base p F kind s1 hkeep.out.1 hkeep.out.2.1
      simp only [if_neg hg, decide_eq_false hg] at hstep
      have hend : (stepsI (pot s) s).1 = s1 := hkeep.out.2.2.trans (stepsAll_none hg)
      have hsm := hkeep.out.2.1.small
      have HS := Lib.hid (And.intro hstep hend); clear hstep hend hg hkeep
      go_wp2_with fail
      refine HS.out.1.mono ?_
      rintro e w5 ⟨rfl, h5a, h5b⟩
      obtain ⟨A5, c5, l5, m1, m2, m3, m4, m5⟩ := h5a
      have hll : s1.length = l5.length := by rw [← m5, its_length]
      obtain ⟨N, hN⟩ : ∃ N, l5.length = N := ⟨_, rfl⟩
      have c2 := m1.cell 2 (v := .slice A5 l5.length c5) rfl
      rw [hN] at c2 hll
      have HF := Lib.hid (And.intro (show Mkr w5 base F p kind true s1 from ⟨A5, c5, l5, m1, m2, m3, m4, m5⟩) (And.intro (hT.trans h5b) (And.intro hll HS.out.2))); clear m1 m2 m3 m5 hll hN h5b hT HS
      have hN100 : N ≤ 100 := by have := HF.out.2.2.1; omega
      go_wp2_with fail
      clear c2
      go_loopg [4, 18] N (fun gk mv iv wq => ∃ (k m : Nat), k ≤ N ∧ gk = N - k ∧ iv = .int .i64 k ∧ mv = .int .i64 m ∧ m ≤ k ∧ Hid (Mkr wq base F p kind true (sweepK k s1) ∧ whiteN (s1.take k) = m) ∧ Touch F w wq)
      case atStart => exact ⟨0, 0, Nat.zero_le _, rfl, rfl, rfl, Nat.le_refl _, ⟨by rw [sweepK_zero]; exact HF.out.1, rfl⟩, HF.out.2.1⟩
      case round =>
        obtain ⟨k, m, hk, rfl, rfl, rfl, hm, hkeep, hT⟩ := hrel
        obtain ⟨Aq, cq, lq, k1, k2, k3, k4, k5⟩ := hkeep.out.1
        have hlq : lq.length = N := by rw [← its_length, k5, sweepK_length, HF.out.2.2.1]
        rw [hlq] at k1
        have c2 := k1.cell 2 (v := .slice Aq N cq) rfl
        by_cases hlt : k < N
        · obtain ⟨x, hx⟩ : ∃ x, lq[k]? = some x := ⟨_, List.getElem?_eq_getElem (by omega)⟩
          obtain ⟨g, rfl, hg1, hg2, q0, q1, q2⟩ := k2.cells hx
          obtain ⟨y, hsx⟩ : ∃ y, s1[k]? = some y := ⟨_, List.getElem?_eq_getElem (by have := HF.out.2.2.1; omega)⟩
          have hyx : y = x.it := by
            have h1 := sweepK_get k s1 k hsx
            rw [if_neg (by omega), ← k5, its_get hx] at h1
            injection h1 with h1; exact h1.symm
          subst hyx
          have hwn := whiteN_step s1 k hsx
          have b0 : (0 : Int) ≤ (k : Int) := by omega
          have b1 : (k : Int) < (N : Int) := by omega
          obtain ⟨v, hv⟩ : ∃ v, x.st = v := ⟨_, rfl⟩
          have hv' : x.it.st = v := hv
          rw [hv] at q1
          rw [hv'] at hwn
          have z0 := k2.row.frozen (g := g) rfl (k * 3)
          have z1 := k2.row.frozen (g := g) rfl (k * 3 + 1)
          have z2 := k2.row.frozen (g := g) rfl (k * 3 + 2)
          have hne : p ≠ g := fun e => own_ne_ty k2.row k1 (by decide) (by rw [← e]; rfl)
          have hgF := k2.foot g rfl
          by_cases h0 : v = 0
          · subst h0
            have hsw := sweepK_step k s1 (fun _ => ⟨[], 3, false⟩) hsx (sweep1_white hv').symm
            have hgone := k2.setGone hx (by decide) 3 (by unfold I64; omega)
            have hits := its_set lq k x ⟨none, 0, [], 3, false⟩ (fun _ => ⟨[], 3, false⟩) hx rfl
            rw [k5] at hits
            have hbl := ((k1.far (p := ⟨g, k * 3, none⟩) hne (.slice none 0 0)).far (p := ⟨g, k * 3 + 1, none⟩) hne (.int .i64 3)).far (p := ⟨g, k * 3 + 2, none⟩) hne (.bool false)
            have hln : (lq.set k ⟨none, 0, [], 3, false⟩).length = N := by rw [List.length_set]; exact hlq
            have HX := Lib.hid (And.intro hsw (And.intro hgone (And.intro hits (And.intro hbl (And.intro hln (And.intro hwn (And.intro hkeep.out.2 k3))))))); clear hsw hgone hits hbl hln hwn hkeep k1 k2 k3 k5 hlq hx hsx hv hv'
            go_wp2_with fail
            go_roundg (N - (k + 1))
            case measure => omega
            case rel => exact ⟨k + 1, m + 1, by omega, rfl, by go_num, by go_num, by omega, ⟨⟨_, cq, _, by rw [HX.out.2.2.2.2.1]; exact HX.out.2.2.2.1, HX.out.2.1, HX.out.2.2.2.2.2.2.2, h4, by rw [HX.out.2.2.1, HX.out.1]⟩, by rw [HX.out.2.2.2.2.2.1, HX.out.2.2.2.2.2.2.1]; rfl⟩, ((hT.setCell hgF _).setCell hgF _).setCell hgF _⟩
          · by_cases h2 : v = 2
            · subst h2
              have hsw := sweepK_step k s1 (It.setst 0) hsx (sweep1_black hv').symm
              have hset := k2.setSt hx (by decide) 0 (by unfold I64; omega)
              have hits := its_set lq k x { x with st := 0 } (It.setst 0) hx rfl
              rw [k5] at hits
              have hbl := k1.far (p := ⟨g, k * 3 + 1, none⟩) hne (.int .i64 0)
              have hln : (lq.set k { x with st := 0 }).length = N := by rw [List.length_set]; exact hlq
              rw [if_neg h0, Nat.add_zero] at hwn
              have HX := Lib.hid (And.intro hsw (And.intro hset (And.intro hits (And.intro hbl (And.intro hln (And.intro hwn (And.intro hkeep.out.2 k3))))))); clear hsw hset hits hbl hln hwn hkeep k1 k2 k3 k5 hlq hx hsx hv hv' h0 q0 q2
              go_wp2_with fail
              go_roundg (N - (k + 1))
              case measure => omega
              case rel => exact ⟨k + 1, m, by omega, rfl, by go_num, rfl, by omega, ⟨⟨_, cq, _, by rw [HX.out.2.2.2.2.1]; exact HX.out.2.2.2.1, HX.out.2.1, HX.out.2.2.2.2.2.2.2, h4, by rw [HX.out.2.2.1, HX.out.1]⟩, by rw [HX.out.2.2.2.2.2.1]; exact HX.out.2.2.2.2.2.2.1⟩, hT.setCell hgF _⟩
            · have hsw := sweepK_id hsx (sweep1_other (by rw [hv']; exact h0) (by rw [hv']; exact h2))
              have d0 : (v == 0) = false := by simpa using h0
              have d2 : (v == 2) = false := by simpa using h2
              rw [if_neg h0, Nat.add_zero] at hwn
              have HX := Lib.hid (And.intro hsw (And.intro hwn hkeep.out)); clear hsw hwn hkeep k1 k2 k3 k5 hlq hx hsx hv hv' h0 h2 q0 q2
              go_wp2_with fail
              go_roundg (N - (k + 1))
              case measure => omega
              case rel => exact ⟨k + 1, m, by omega, rfl, by go_num, rfl, by omega, ⟨by rw [HX.out.1]; exact HX.out.2.2.1, by rw [HX.out.2.1]; exact HX.out.2.2.2⟩, hT⟩
        · obtain rfl : N = k := by omega
          have zp := k1.frozen 1
          have cp := k1.cell 1 (v := .bool true) rfl
          have hf2 := hkeep.out.2
          have hsl : s1.take N = s1 := List.take_of_length_le (by have := HF.out.2.2.1; omega)
          rw [hsl] at hf2
          have hk5 : sweepK N s1 = s1.map sweep1 := by rw [← HF.out.2.2.1, sweepK_all]
          have hfin : Mkr (wr.setCell ⟨p, 1, none⟩ (.bool false)) base F p kind false (endI s) := ⟨Aq, cq, lq, by rw [hlq]; exact k1.set_ 1 _, k2.far_blk k1 (by decide) (by decide) _ _, k3, k4, by rw [k5, hk5]; unfold endI; rw [HF.out.2.2.2]⟩
          have hTf := hT.setCell (p := ⟨p, 1, none⟩) k3 (.bool false)
          have HE := Lib.hid (And.intro hfin (And.intro hTf hf2)); clear hfin hTf hf2 hsl hk5 k1 k2 k3 k5 hlq hkeep c2
          go_wp2_with fail
          go_ret2
          refine ⟨?_, HE.out.1, HE.out.2.1⟩
          have : endN s = m := by unfold endN; rw [HF.out.2.2.2]; exact HE.out.2.2
          rw [this]; rfl

end Go.Proofs.Ytpkccpegdpodoaa

/- mark: set. -/
namespace Go.Proofs.Ytpkccpegdpodoaa
open Go.RowKit

attribute [local go_sem ↓] Go.wp_at_zero Go.wp_at_succ

theorem At.pre {α : Type} [Enc α] {w : World} {B : Nat} {A : Option Addr} {l r : List α} (h : At w B A (l ++ r)) : At w B A l := fun i x hx => h i x (by rw [List.getElem?_append_left (List.getElem?_eq_some_iff.1 hx).1]; exact hx)
theorem setE_named {s : List It} {d : Dd} (h : namedE s (setL d) ≠ 0) : setE s d = namedE s (setL d) := if_pos h
theorem setE_range {s : List It} {d : Dd} (h : namedE s (setL d) = 0) (h2 : d.n < 0 ∨ ((hasAt s d.a).length : Int) ≤ d.n) : setE s d = 1 := by unfold setE; rw [if_neg (by simpa using h), if_pos h2]
theorem setE_ok {s : List It} {d : Dd} (h : namedE s (setL d) = 0) (h2 : ¬ (d.n < 0 ∨ ((hasAt s d.a).length : Int) ≤ d.n)) : setE s d = 0 := by unfold setE; rw [if_neg (by simpa using h), if_neg h2]
theorem Mkr.fine_len {w : World} {base p : Nat} {F : Nat → Prop} {kind : Int} {mk : Bool} {s : List It} (h : Mkr w base F p kind mk s) : p < w.heap.size := by
  obtain ⟨A, c, l, h1, -⟩ := h; exact h1.lt

theorem Blk.touch {F : Nat → Prop} {w w' : World} {g : Nat} {t : TypeId} {cs : Array Value} (h : Blk w g t cs) (hT : Touch F w w') (hg : ¬ F g) : Blk w' g t cs := (hT.block g h.lt hg).trans h

/-- what a setting leaves -/
def SetPost (base p : Nat) (F : Nat → Prop) (kind : Int) (mk : Bool) (s : List It) (d : Dd) (w : World) (e : Ending) (w' : World) : Prop :=
  e = .returned (.int .i64 (setE s d)) ∧ Mkr w' base F p kind mk (if setE s d = 0 then setI kind mk d s else s) ∧ Touch F w w'
theorem SetPost.no {base p : Nat} {F : Nat → Prop} {kind : Int} {mk : Bool} {s : List It} {d : Dd} {w w' : World} {e : Ending} {v : Int} (hv : setE s d = v) (h0 : v ≠ 0) (he : e = .returned (.int .i64 v)) (hm : Mkr w' base F p kind mk s) (hT : Touch F w w') : SetPost base p F kind mk s d w e w' := by
  unfold SetPost
  rw [hv, if_neg h0]
  exact ⟨he, hm, hT⟩
theorem SetPost.yes {base p : Nat} {F : Nat → Prop} {kind : Int} {mk : Bool} {s s' : List It} {d : Dd} {w w' : World} {e : Ending} (hv : setE s d = 0) (hs : setI kind mk d s = s') (he : e = .returned (.int .i64 0)) (hm : Mkr w' base F p kind mk s') (hT : Touch F w w') : SetPost base p F kind mk s d w e w' := by
  unfold SetPost
  rw [hv, if_pos rfl, hs]
  exact ⟨he, hm, hT⟩

theorem shadeI_same (mk : Bool) (n : Int) {s : List It} {i : Nat} {x : It} (h : s[i]? = some x) : ∃ y, (shadeI mk n s)[i]? = some y ∧ y.has = x.has ∧ y.held = x.held := by
  unfold shadeI
  split
  · rw [get_modify]
    split
    · rw [h]; exact ⟨_, rfl, rfl, rfl⟩
    · rw [h]; exact ⟨_, rfl, rfl, rfl⟩
  · rw [h]; exact ⟨_, rfl, rfl, rfl⟩
theorem set_fin {w : World} {base p t j gx c xc : Nat} {F : Nat → Prop} {kind dd b sn xs : Int} {mk xb : Bool} {A : Option Addr} {s : List It} {l l5 : List ItR} {xh : List Int}
    (h : MkrL w base F p kind mk A c (shadeI mk sn s) l5) (hsa : SameA l l5) (hx : l[t]? = some ⟨some ⟨gx, 0, none⟩, xc, xh, xs, xb⟩) (hl : its l = s) (hj : j < xh.length) (hb : I64 b) (hsn : (if kind = 1 then b else (hasAt s (t : Int)).getD j 0) = sn) :
    Mkr (w.setCell ⟨gx, j, none⟩ (.int .i64 b)) base F p kind mk (setI kind mk ⟨dd, (t : Int), b, (j : Int)⟩ s) ∧ F gx ∧ (∃ v, w.cell? ⟨gx, j, none⟩ = some (.int .i64 v)) ∧ w.frozen? ⟨gx, j, none⟩ = false := by
  obtain ⟨h1, h2, h3, h4, h5⟩ := h
  obtain ⟨x5, hx5, hA, hc⟩ := hsa t _ hx
  simp only at hA hc
  have hsx : s[t]? = some ⟨xh, xs, xb⟩ := by rw [← hl]; exact its_get hx
  have hhas : x5.has = xh := by
    obtain ⟨y, hy, hy2, -⟩ := shadeI_same mk sn hsx
    rw [← h5, its_get hx5] at hy
    injection hy with hy
    rw [← hy] at hy2
    exact hy2
  have hsub := h2.sub t x5 hx5
  have hown := hsub.1
  rw [hA, hc, hhas] at hown
  have hset := h2.setHas hx5 (by decide) hA (j := j) (by rw [hhas]; exact hj) b hb
  have hits := its_set l5 t x5 { x5 with has := x5.has.set j b } (It.sethas j b) hx5 rfl
  rw [h5] at hits
  have hne : p ≠ gx := fun e => own_ne_ty hown h1 (by decide) (by rw [← e]; rfl)
  refine ⟨⟨A, c, _, by rw [List.length_set]; exact h1.far (p := ⟨gx, j, none⟩) hne _, hset, h3, h4, ?_⟩, hsub.2.1 gx (by rw [hA]; rfl), ⟨xh[j], hown.cell_int (List.getElem?_eq_getElem hj)⟩, hown.frozen rfl j⟩
  rw [hits]
  unfold setI
  simp only [Int.toNat_natCast]
  rw [hsn]

set_option maxHeartbeats 1600000 in
set_option maxRecDepth 100000 in
theorem set_any (w : World) (base p : Nat) (F : Nat → Prop) (kind dd a b n : Int) (mk : Bool) (s : List It) (h : Mkr w base F p kind mk s) (hi : MInv kind mk s) (hk : kind = 1 ∨ kind = 2) (hF : ∀ g, F g → g < w.heap.size) (hd : I64 a ∧ I64 b ∧ I64 n) :
    Calls Try.prog 123 #[.pointer (some ⟨p, 0, none⟩), .agg #[.int .i64 dd, .int .i64 a, .int .i64 b, .int .i64 n]] w (SetPost base p F kind mk s ⟨dd, a, b, n⟩ w) := by
  obtain ⟨P, hP⟩ : ∃ P, SetPost base p F kind mk s ⟨dd, a, b, n⟩ w = P := ⟨_, rfl⟩
  have HP := Lib.hid hP
  rw [hP]; clear hP
  have hp := h.fine_len
  have H := Lib.hid (And.intro h (And.intro hi (And.intro hk (And.intro hF hd)))); clear h hi hk hF hd
  have hat2 : ∀ V : World, At (V.alloc (.cells #[.int .i64 a, .int .i64 b] 3)) (V.heap.size + 1) (some ⟨V.heap.size, 0, none⟩) [a, b] := fun V => At.built V _ _ [a, b] rfl (by
    intro z hz
    simp only [List.mem_cons, List.not_mem_nil, or_false] at hz
    rcases hz with rfl | rfl
    · exact H.out.2.2.2.2.1
    · exact H.out.2.2.2.2.2.1)
  have hls : (b == -1) = true ∧ setL ⟨dd, a, b, n⟩ = [a] ∨ (b == -1) = false ∧ setL ⟨dd, a, b, n⟩ = [a, b] := by
    by_cases hb : b = -1
    · exact .inl ⟨by simpa using hb, if_pos hb⟩
    · exact .inr ⟨by simpa using hb, if_neg hb⟩
  have HA2 := Lib.hid hat2; clear hat2
  rcases hls with ⟨d0, hl⟩ | ⟨d0, hl⟩
  all_goals
    have hat : ∀ V : World, At (V.alloc (.cells #[.int .i64 a, .int .i64 b] 3)) (V.heap.size + 1) (some ⟨V.heap.size, 0, none⟩) (setL ⟨dd, a, b, n⟩) := by
      intro V; rw [hl]
      first
        | exact HA2.out V
        | exact At.pre (r := [b]) (HA2.out V)
    have HL := Lib.hid (And.intro hl hat); clear hl hat
    go_enter Try.func123, Try.ntmps123
    go_wp2_with fail
    refine calls_world (fun W => Blk W w.heap.size 97 #[.int .i64 dd, .int .i64 a, .int .i64 b, .int .i64 n] ∧ At W W.heap.size (some ⟨w.heap.size + 1, 0, none⟩) (setL ⟨dd, a, b, n⟩) ∧ Below w.heap.size w W ∧ w.heap.size < W.heap.size) ⟨(Blk.new w _ _).alloc _, ?_, ((Below.refl _ _).alloc (Nat.le_refl _) _).alloc (by simp) _, by simp; omega⟩ ?_
    · have := HL.out.2 (w.alloc (.cells #[.int .i64 dd, .int .i64 a, .int .i64 b, .int .i64 n] 97))
      simpa using this
    rintro W ⟨hD, hAt, hbW, hsW⟩
    refine (mnamed_any W base p W.heap.size 2 _ F kind mk s _ _ (H.out.1.fresh (hbW.mono (Nat.le_refl _))) H.out.2.1.fine hAt (Nat.le_refl _) (by rw [HL.out.1]; rfl) (by decide)).mono ?_
    rintro e w1 ⟨rfl, hb1⟩
    have hs1 := hb1.size
    have hb : Below w.heap.size w w1 := hbW.trans (hb1.mono (by omega))
    have HD := Lib.hid (And.intro (hD.fresh hb1) (And.intro hb (H.out.1.fresh hb))); clear hD hAt hbW hb1 hb
    by_cases hn0 : namedE s (setL ⟨dd, a, b, n⟩) = 0
    · rw [hn0]
      have hz := namedE_zero hn0 a (by rw [HL.out.1]; simp)
      obtain ⟨t, rfl, htl, -⟩ := hz
      obtain ⟨A, c, l, m1, m2, m3, m4, m5⟩ := HD.out.2.2
      have hll : l.length = s.length := by rw [← m5, its_length]
      obtain ⟨L, hL⟩ : ∃ L, l.length = L := ⟨_, rfl⟩
      rw [hL] at m1 hll
      obtain ⟨x, hx⟩ : ∃ x, l[t]? = some x := ⟨_, List.getElem?_eq_getElem (by omega)⟩
      obtain ⟨g, rfl, hg1, hg2, q0, q1, q2⟩ := m2.cells hx
      have hsx : s[t]? = some x.it := by rw [← m5]; exact its_get hx
      obtain ⟨XA, xc, xh, xs, xb⟩ := x
      simp only at q0 q1 q2
      obtain ⟨xn, hxn⟩ : ∃ n, xh.length = n := ⟨_, rfl⟩
      rw [hxn] at q0
      have hat : hasAt s (t : Int) = xh := by unfold hasAt; rw [Int.toNat_natCast, hsx]; rfl
      have p2 := m1.cell 2 (v := .slice (some ⟨g, 0, none⟩) L c) rfl
      have p0 := m1.cell 0 (v := .int .i64 kind) rfl
      have e1 := HD.out.1.cell 1 (v := .int .i64 (t : Int)) rfl
      have e2 := HD.out.1.cell 2 (v := .int .i64 b) rfl
      have e3 := HD.out.1.cell 3 (v := .int .i64 n) rfl
      have t0 : (0 : Int) ≤ (t : Int) := by omega
      have t1 : (t : Int) < (L : Int) := by omega
      have hplt := m1.lt
      have hDlt := HD.out.1.lt
      have hY : ∀ o : Obj, (w1.alloc o).cell? ⟨p, 2, none⟩ = some (.slice (some ⟨g, 0, none⟩) L c) ∧ (w1.alloc o).cell? ⟨w.heap.size, 1, none⟩ = some (.int .i64 (t : Int)) ∧ (w1.alloc o).cell? ⟨g, t * 3, none⟩ = some (.slice XA xn xc) ∧ (w1.alloc o).cell? ⟨g, t * 3 + 1, none⟩ = some (.int .i64 xs) ∧ (w1.alloc o).cell? ⟨g, t * 3 + 2, none⟩ = some (.bool xb) := fun o =>
        ⟨(World.cell?_alloc_lt _ _ _ hplt).trans p2, (World.cell?_alloc_lt _ _ _ hDlt).trans e1, (World.cell?_alloc_lt _ _ _ hg2).trans q0, (World.cell?_alloc_lt _ _ _ hg2).trans q1, (World.cell?_alloc_lt _ _ _ hg2).trans q2⟩
      have HY := Lib.hid hY; clear hY
      have HX := Lib.hid (And.intro m1 (And.intro m2 (And.intro m3 (And.intro m5 (And.intro hll (And.intro hx (And.intro hsx (And.intro hxn (And.intro hat (And.intro hn0 hL)))))))))); clear m1 m2 m3 m5 hll hx hsx hxn hat hn0 hL htl
      go_wp2_with fail
      refine wp_region_held_drew (S := (fun w' => w'.cell? ⟨p, 2, none⟩ = some (.slice (some ⟨g, 0, none⟩) L c) ∧ w'.cell? ⟨w.heap.size, 1, none⟩ = some (.int .i64 (t : Int)) ∧ w'.cell? ⟨g, t * 3, none⟩ = some (.slice XA xn xc) ∧ w'.cell? ⟨g, t * 3 + 1, none⟩ = some (.int .i64 xs) ∧ w'.cell? ⟨g, t * 3 + 2, none⟩ = some (.bool xb))) (by kernel_rfl) ?_ (fun hHeld0 => ?_)
      · first | trivial | ((try dsimp only); (exact ⟨p2, e1, q0, q1, q2⟩))
      refine held_take (v := ?_) 0 rfl (by kernel_rfl) (by kernel_rfl) (by kernel_rfl) (fun _ _ _ h => h) (by rfl) ?_ (by assumption) ?_
      rotate_left
      · (intro w hSw; (try dsimp only at hSw); go_simp; try with_reducible rfl)
      try simp only [Act.put, List.setIfInBounds_toArray, List.set_cons_zero, List.set_cons_succ]
      refine held_take (v := ?_) 1 rfl (by kernel_rfl) (by kernel_rfl) (by kernel_rfl) (fun _ _ _ h => h) (by rfl) ?_ (by assumption) ?_
      rotate_left
      · (intro w hSw; (try dsimp only at hSw); go_simp; try with_reducible rfl)
      try simp only [Act.put, List.setIfInBounds_toArray, List.set_cons_zero, List.set_cons_succ]
      refine held_take (v := ?_) 2 rfl (by kernel_rfl) (by kernel_rfl) (by kernel_rfl) (fun _ _ _ h => h) (by rfl) ?_ (by assumption) ?_
      rotate_left
      · (intro w hSw; (try dsimp only at hSw); go_simp; try with_reducible rfl)
      try simp only [Act.put, List.setIfInBounds_toArray, List.set_cons_zero, List.set_cons_succ]
      refine held_take (v := ?_) 3 rfl (by kernel_rfl) (by kernel_rfl) (by kernel_rfl) (fun _ _ _ h => h) (by rfl) ?_ (by assumption) ?_
      rotate_left
      · (intro w hSw; (try dsimp only at hSw); go_simp; try with_reducible rfl)
      try simp only [Act.put, List.setIfInBounds_toArray, List.set_cons_zero, List.set_cons_succ]
      refine held_take (v := ?_) 4 rfl (by kernel_rfl) (by kernel_rfl) (by kernel_rfl) (fun _ _ _ h => h) (by rfl) ?_ (by assumption) ?_
      rotate_left
      · (intro w hSw; (try dsimp only at hSw); go_simp; try with_reducible rfl)
      try simp only [Act.put, List.setIfInBounds_toArray, List.set_cons_zero, List.set_cons_succ]
      refine held_take (v := ?_) 5 rfl (by kernel_rfl) (by kernel_rfl) (by kernel_rfl) (fun _ _ _ h => h) (by rfl) ?_ (by assumption) ?_
      rotate_left
      · (intro w hSw; (try dsimp only at hSw); go_simp; try with_reducible rfl)
      try simp only [Act.put, List.setIfInBounds_toArray, List.set_cons_zero, List.set_cons_succ]
      refine held_take (v := ?_) 6 rfl (by kernel_rfl) (by kernel_rfl) (by kernel_rfl) (fun _ _ _ h => h) (by rfl) ?_ (by assumption) ?_
      rotate_left
      · (intro w hSw; (try dsimp only at hSw); go_simp; try with_reducible rfl)
      try simp only [Act.put, List.setIfInBounds_toArray, List.set_cons_zero, List.set_cons_succ]
      refine held_take (v := ?_) 7 rfl (by kernel_rfl) (by kernel_rfl) (by kernel_rfl) (fun _ _ _ h => h) (by rfl) ?_ (by assumption) ?_
      rotate_left
      · (intro w hSw; (try dsimp only at hSw); go_simp; try with_reducible rfl)
      try simp only [Act.put, List.setIfInBounds_toArray, List.set_cons_zero, List.set_cons_succ]
      refine held_call 8 (by kernel_rfl) rfl (fun K hK => ?_)
      go_simp
      skip
      refine hK.out _ _ ?_ (fun hHeld1 => ?_)
      · first | trivial | ((try dsimp only); (exact HY.out _))
      clear hK K hHeld0
      try simp only [Act.put, List.setIfInBounds_toArray, List.set_cons_zero, List.set_cons_succ]
      refine held_call 9 (by kernel_rfl) rfl (fun K hK => ?_)
      go_simp
      skip
      refine hK.out _ _ ?_ (fun hHeld2 => ?_)
      · first | trivial | ((try dsimp only); (exact HY.out _))
      clear hK K hHeld1
      try simp only [Act.put, List.setIfInBounds_toArray, List.set_cons_zero, List.set_cons_succ]
      refine wpAnyH_done (by kernel_rfl) ?_ _
      go_upto_region 8 with fail
      refine wp_world (fun V => Hid (MkrL V base F p kind mk (some ⟨g, 0, none⟩) c s l ∧ Blk V w.heap.size 97 #[.int .i64 dd, .int .i64 (t : Int), .int .i64 b, .int .i64 n] ∧ Blk V w1.heap.size 187 #[.slice XA xn xc, .int .i64 xs, .bool xb] ∧ Touch F w V)) ⟨⟨by rw [HX.out.2.2.2.2.2.2.2.2.2.2]; exact (HX.out.1.alloc _).drew, (HX.out.2.1.alloc _).drew, HX.out.2.2.1, m4, HX.out.2.2.2.1⟩, (HD.out.1.alloc _).drew, (Blk.new _ _ _).drew, ((Touch.ofBelow HD.out.2.1).alloc _).drew⟩ ?_
      rintro V hV
      clear p2 p0 e1 e2 e3 q0 q1 q2
      have e3 := hV.out.2.1.cell 3 (v := .int .i64 n) rfl
      have e2 := hV.out.2.1.cell 2 (v := .int .i64 b) rfl
      have x0 := hV.out.2.2.1.cell 0 (v := .slice XA xn xc) rfl
      have p0 := hV.out.1.1.cell 0 (v := .int .i64 kind) rfl
      have hVX := hV.out.2.2.1.lt
      by_cases hr : n < 0 ∨ (xn : Int) ≤ n
      · have HR := Lib.hid (setE_range (d := ⟨dd, (t : Int), b, n⟩) HX.out.2.2.2.2.2.2.2.2.2.1 (by rw [HX.out.2.2.2.2.2.2.2.2.1, HX.out.2.2.2.2.2.2.2.1]; exact hr))
        by_cases hn0 : n < 0
        · clear hr
          go_wp2_with fail
          rw [← HP.out]
          exact SetPost.no HR.out (by decide) rfl ⟨_, c, l, hV.out.1⟩ hV.out.2.2.2
        · have hn1 : (xn : Int) ≤ n := by omega
          clear hr
          go_wp2_with fail
          rw [← HP.out]
          exact SetPost.no HR.out (by decide) rfl ⟨_, c, l, hV.out.1⟩ hV.out.2.2.2
      · have HR := Lib.hid (setE_ok (d := ⟨dd, (t : Int), b, n⟩) HX.out.2.2.2.2.2.2.2.2.2.1 (by rw [HX.out.2.2.2.2.2.2.2.2.1, HX.out.2.2.2.2.2.2.2.1]; exact hr))
        obtain ⟨j, rfl⟩ : ∃ j : Nat, n = (j : Int) := ⟨n.toNat, by omega⟩
        have hj : j < xn := by omega
        have j0 : (0 : Int) ≤ (j : Int) := by omega
        have j1 : (j : Int) < (xn : Int) := by omega
        have nj0 : ¬ (j : Int) < 0 := by omega
        have nj1 : ¬ (xn : Int) ≤ (j : Int) := by omega
        clear hr
        obtain ⟨gx, rfl, hgx1, hgx2⟩ := (hV.out.1.2.1.sub t _ HX.out.2.2.2.2.2.1).1.some_ (by simp only; rw [HX.out.2.2.2.2.2.2.2.1]; omega)
        have hjx : j < xh.length := by rw [HX.out.2.2.2.2.2.2.2.1]; exact hj
        have holdc := (hV.out.1.2.1.sub t _ HX.out.2.2.2.2.2.1).1.cell_int (i := j) (List.getElem?_eq_getElem hjx)
        have holdr := H.out.2.1.refs _ (List.mem_of_getElem? HX.out.2.2.2.2.2.2.1) (xh[j]) (List.getElem_mem hjx)
        obtain ⟨old, hold⟩ : ∃ o, xh[j] = o := ⟨_, rfl⟩
        simp only [hold] at holdc
        rw [hold] at holdr
        have hgd : (hasAt s (t : Int)).getD j 0 = old := by rw [HX.out.2.2.2.2.2.2.2.2.1, List.getD_eq_getElem?_getD, List.getElem?_eq_getElem hjx, hold]; rfl
        have hbv : b = -1 ∨ ∃ m : Nat, b = (m : Int) ∧ m < s.length := by
          by_cases hb1 : b = -1
          · exact .inl hb1
          · obtain ⟨m, e, e2, -⟩ := namedE_zero HX.out.2.2.2.2.2.2.2.2.2.1 b (by rw [HL.out.1]; first | (simp; done) | (exfalso; exact hb1 (by simpa using d0)))
            exact .inr ⟨m, e, e2⟩
        have hfin := fun (W5 : World) (l5 : List ItR) (sn : Int) (h : MkrL W5 base F p kind mk (some ⟨g, 0, none⟩) c (shadeI mk sn s) l5) (hsa : SameA l l5) (hsn : (if kind = 1 then b else (hasAt s (t : Int)).getD j 0) = sn) => set_fin (dd := dd) h hsa HX.out.2.2.2.2.2.1 HX.out.2.2.2.1 hjx H.out.2.2.2.2.2.1 hsn
        have hnD : ¬ F w.heap.size := fun e => by have := H.out.2.2.2.1 _ e; omega
        have hnX : ¬ F w1.heap.size := fun e => by have := H.out.2.2.2.1 _ e; omega
        have HB := Lib.hid (And.intro hbv (And.intro holdr (And.intro hgd hfin)))
        clear hbv holdr hgd hfin hold hjx hgx1 hgx2
        have hs1000 : s.length ≤ 1000 := by have := H.out.2.1.small; omega
        rcases H.out.2.2.1 with hk1 | hk2
        · subst hk1
          go_wp2_with fail
          refine (mshadeL_any V base p F 1 b mk _ c s l hV.out.1 HB.out.1 hs1000).mono ?_
          rintro e w5 ⟨rfl, ⟨l5, m5a, m5b⟩, m5c, m5d, m5e⟩
          obtain ⟨f1, f2, ⟨ov, f3⟩, f4⟩ := HB.out.2.2.2 w5 l5 b m5a m5b (by simp)
          have hx5 := hV.out.2.2.1.touch m5c hnX
          have hd5 := hV.out.2.1.touch m5c hnD
          clear e2 e3 x0 p0 holdc
          have x0 := hx5.cell 0 (v := .slice (some ⟨gx, 0, none⟩) xn xc) rfl
          have e2 := hd5.cell 2 (v := .int .i64 b) rfl
          have e3 := hd5.cell 3 (v := .int .i64 (j : Int)) rfl
          have HQ := Lib.hid (And.intro f1 (And.intro ((hV.out.2.2.2.trans m5c).setCell (p := ⟨gx, j, none⟩) f2 (.int .i64 b)) True.intro)); clear f1 f2 m5a m5b m5c m5d m5e hx5 hd5
          go_wp2_with fail
          rw [← HP.out]
          exact SetPost.yes HR.out rfl rfl HQ.out.1 HQ.out.2.1
        · subst hk2
          go_wp2_with fail
          refine (mshadeL_any V base p F 2 old mk _ c s l hV.out.1 (HB.out.2.1.imp id (fun ⟨m, e, e2, _⟩ => ⟨m, e, e2⟩)) hs1000).mono ?_
          rintro e w5 ⟨rfl, ⟨l5, m5a, m5b⟩, m5c, m5d, m5e⟩
          obtain ⟨f1, f2, ⟨ov, f3⟩, f4⟩ := HB.out.2.2.2 w5 l5 old m5a m5b (by rw [if_neg (by decide)]; exact HB.out.2.2.1)
          have hx5 := hV.out.2.2.1.touch m5c hnX
          have hd5 := hV.out.2.1.touch m5c hnD
          clear e2 e3 x0 p0 holdc
          have x0 := hx5.cell 0 (v := .slice (some ⟨gx, 0, none⟩) xn xc) rfl
          have e2 := hd5.cell 2 (v := .int .i64 b) rfl
          have e3 := hd5.cell 3 (v := .int .i64 (j : Int)) rfl
          have HQ := Lib.hid (And.intro f1 (And.intro ((hV.out.2.2.2.trans m5c).setCell (p := ⟨gx, j, none⟩) f2 (.int .i64 b)) True.intro)); clear f1 f2 m5a m5b m5c m5d m5e hx5 hd5
          go_wp2_with fail
          rw [← HP.out]
          exact SetPost.yes HR.out rfl rfl HQ.out.1 HQ.out.2.1
    · have HN := Lib.hid hn0
      have d1 : (namedE s (setL ⟨dd, a, b, n⟩) != 0) = true := by simpa using hn0
      obtain ⟨er, her⟩ : ∃ er, namedE s (setL ⟨dd, a, b, n⟩) = er := ⟨_, rfl⟩
      rw [her] at d1 ⊢
      have HER := Lib.hid (And.intro her hn0); clear her hn0
      go_wp2_with fail
      rw [← HP.out]
      exact SetPost.no ((setE_named HER.out.2).trans HER.out.1) (by rw [← HER.out.1]; exact HER.out.2) rfl HD.out.2.2 (Touch.ofBelow HD.out.2.1)

end Go.Proofs.Ytpkccpegdpodoaa

/- mark: hold. -/
namespace Go.Proofs.Ytpkccpegdpodoaa
open Go.RowKit

attribute [local go_sem ↓] Go.wp_at_zero Go.wp_at_succ

theorem holdE_named {s : List It} {d : Dd} (h : namedE s [d.a] ≠ 0) : holdE s d = namedE s [d.a] := if_pos h
theorem holdE_state {s : List It} {d : Dd} (h : namedE s [d.a] = 0) (h2 : d.dd = 3 ∧ heldB s d.a = false) : holdE s d = 8 := by unfold holdE; rw [if_neg (by simpa using h), if_pos h2]
theorem holdE_ok {s : List It} {d : Dd} (h : namedE s [d.a] = 0) (h2 : ¬ (d.dd = 3 ∧ heldB s d.a = false)) : holdE s d = 0 := by unfold holdE; rw [if_neg (by simpa using h), if_neg h2]
/-- what a holding leaves -/
def HoldPost (base p : Nat) (F : Nat → Prop) (kind : Int) (mk : Bool) (s : List It) (d : Dd) (w : World) (e : Ending) (w' : World) : Prop :=
  e = .returned (.int .i64 (holdE s d)) ∧ Mkr w' base F p kind mk (if holdE s d = 0 then holdI kind mk d s else s) ∧ Touch F w w'
theorem HoldPost.no {base p : Nat} {F : Nat → Prop} {kind : Int} {mk : Bool} {s : List It} {d : Dd} {w w' : World} {e : Ending} {v : Int} (hv : holdE s d = v) (h0 : v ≠ 0) (he : e = .returned (.int .i64 v)) (hm : Mkr w' base F p kind mk s) (hT : Touch F w w') : HoldPost base p F kind mk s d w e w' := by
  unfold HoldPost
  rw [hv, if_neg h0]
  exact ⟨he, hm, hT⟩
theorem HoldPost.yes {base p : Nat} {F : Nat → Prop} {kind : Int} {mk : Bool} {s s' : List It} {d : Dd} {w w' : World} {e : Ending} (hv : holdE s d = 0) (hs : holdI kind mk d s = s') (he : e = .returned (.int .i64 0)) (hm : Mkr w' base F p kind mk s') (hT : Touch F w w') : HoldPost base p F kind mk s d w e w' := by
  unfold HoldPost
  rw [hv, if_pos rfl, hs]
  exact ⟨he, hm, hT⟩
theorem hold_fin {w : World} {base p t g c : Nat} {F : Nat → Prop} {kind : Int} {mk b : Bool} {s : List It} {l : List ItR} (h : MkrL w base F p kind mk (some ⟨g, 0, none⟩) c s l) (ht : t < s.length) :
    Mkr (w.setCell ⟨g, t * 3 + 2, none⟩ (.bool b)) base F p kind mk (s.modify t (It.sethl b)) ∧ F g ∧ (∃ v, w.cell? ⟨g, t * 3 + 2, none⟩ = some (.bool v)) ∧ w.frozen? ⟨g, t * 3 + 2, none⟩ = false ∧ w.cell? ⟨p, 2, none⟩ = some (.slice (some ⟨g, 0, none⟩) s.length c) := by
  obtain ⟨h1, h2, h3, h4, h5⟩ := h
  have hl : l.length = s.length := by rw [← h5, its_length]
  obtain ⟨x, hx⟩ : ∃ x, l[t]? = some x := ⟨_, List.getElem?_eq_getElem (by omega)⟩
  obtain ⟨g', hgg, -, -, -, -, q2⟩ := h2.cells hx
  injection hgg with hgg; injection hgg with hgg; subst hgg
  have hset := h2.setHeld hx (by decide) b
  have hits := its_set l t x { x with held := b } (It.sethl b) hx rfl
  rw [h5] at hits
  have hne : p ≠ g := fun e => own_ne_ty h2.row h1 (by decide) (by rw [← e]; rfl)
  exact ⟨⟨_, c, _, by rw [List.length_set]; exact h1.far (p := ⟨g, t * 3 + 2, none⟩) hne _, hset, h3, h4, hits⟩, h2.foot g rfl, ⟨_, q2⟩, h2.row.frozen rfl _, by rw [← hl]; exact h1.cell 2 rfl⟩

set_option maxHeartbeats 1600000 in
set_option maxRecDepth 100000 in
theorem hold_any (w : World) (base p : Nat) (F : Nat → Prop) (kind dd a b n : Int) (mk is : Bool) (s : List It) (h : Mkr w base F p kind mk s) (hi : MInv kind mk s) (hk : kind = 1 ∨ kind = 2) (hF : ∀ g, F g → g < w.heap.size) (ha : I64 a) (hdd : dd = 3 ∧ is = false ∨ dd = 4 ∧ is = true) :
    Calls Try.prog 124 #[.pointer (some ⟨p, 0, none⟩), .int .i64 a, .bool is] w (HoldPost base p F kind mk s ⟨dd, a, b, n⟩ w) := by
  obtain ⟨P, hP⟩ : ∃ P, HoldPost base p F kind mk s ⟨dd, a, b, n⟩ w = P := ⟨_, rfl⟩
  have HP := Lib.hid hP
  rw [hP]; clear hP
  have hp := h.fine_len
  have hat : At (w.alloc (.cells #[.int .i64 a] 3)) (w.heap.size + 1) (some ⟨w.heap.size, 0, none⟩) [a] := At.built w _ _ [a] rfl (by intro z hz; simp at hz; subst hz; exact ha)
  have H := Lib.hid (And.intro h (And.intro hi (And.intro hF hat))); clear h hi hF ha hat
  rcases hk with rfl | rfl <;> rcases hdd with ⟨rfl, rfl⟩ | ⟨rfl, rfl⟩
  · go_enter Try.func124, Try.ntmps124
    go_wp2_with fail
    refine calls_world (fun W => At W W.heap.size (some ⟨w.heap.size, 0, none⟩) [a] ∧ Below w.heap.size w W ∧ w.heap.size < W.heap.size) ⟨by have := H.out.2.2.2; simpa using this, (Below.refl _ _).alloc (Nat.le_refl _) _, by simp⟩ ?_
    rintro W ⟨hAt, hbW, hsW⟩
    refine (mnamed_any W base p W.heap.size 1 1 F 1 mk s _ _ (H.out.1.fresh hbW) H.out.2.1.fine hAt (Nat.le_refl _) rfl (by decide)).mono ?_
    rintro e w1 ⟨rfl, hb1⟩
    have hs1 := hb1.size
    have hb : Below w.heap.size w w1 := hbW.trans (hb1.mono (by omega))
    have HD := Lib.hid (And.intro hb (H.out.1.fresh hb)); clear hAt hbW hb1 hb
    by_cases hn0 : namedE s [a] = 0
    · rw [hn0]
      obtain ⟨t, rfl, htl, -⟩ := namedE_zero hn0 a (by simp)
      obtain ⟨A, c, l, m1, m2, m3, m4, m5⟩ := HD.out.2
      have hll : l.length = s.length := by rw [← m5, its_length]
      obtain ⟨L, hL⟩ : ∃ L, l.length = L := ⟨_, rfl⟩
      have hsL : s.length = L := by omega
      obtain ⟨x, hx⟩ : ∃ x, l[t]? = some x := ⟨_, List.getElem?_eq_getElem (by omega)⟩
      obtain ⟨g, rfl, hg1, hg2, q0, q1, q2⟩ := m2.cells hx
      have hsx : s[t]? = some x.it := by rw [← m5]; exact its_get hx
      have hhb : heldB s (t : Int) = x.held := by unfold heldB; rw [Int.toNat_natCast, hsx]; rfl
      obtain ⟨xb, hxb⟩ : ∃ b, x.held = b := ⟨_, rfl⟩
      rw [hxb] at q2 hhb
      have p2 := m1.cell 2 (v := .slice (some ⟨g, 0, none⟩) l.length c) rfl
      have p0 := m1.cell 0 (v := .int .i64 1) rfl
      rw [hL] at p2
      have t0 : (0 : Int) ≤ (t : Int) := by omega
      have t1 : (t : Int) < (L : Int) := by omega
      have HX := Lib.hid (And.intro (show MkrL w1 base F p 1 mk (some ⟨g, 0, none⟩) c s l from ⟨m1, m2, m3, m4, m5⟩) (And.intro htl (And.intro hhb (And.intro hn0 (And.intro hsL H.out.2.1.small))))); clear m1 m2 m3 m4 m5 hll hx hsx hhb hxb hn0 hL hsL htl q0 q1
      cases xb with
      | false =>
        go_wp2_with fail
        rw [← HP.out]
        exact HoldPost.no (holdE_state HX.out.2.2.2.1 ⟨rfl, HX.out.2.2.1⟩) (by decide) rfl HD.out.2 (Touch.ofBelow HD.out.1)
      | true =>
        obtain ⟨f1, f2, ⟨ov, f3⟩, f4, f5⟩ := hold_fin (t := t) (b := false) HX.out.1 HX.out.2.1
        have HQ := Lib.hid (And.intro f1 ((Touch.ofBelow HD.out.1).setCell (p := ⟨g, t * 3 + 2, none⟩) f2 (.bool false))); clear f1 f2 f5 f3
        go_wp2_with fail
        rw [← HP.out]
        exact HoldPost.yes (holdE_ok HX.out.2.2.2.1 (by rw [HX.out.2.2.1]; simp)) (by unfold holdI; simp) rfl HQ.out.1 HQ.out.2
    · have d1 : (namedE s [a] != 0) = true := by simpa using hn0
      obtain ⟨er, her⟩ : ∃ er, namedE s [a] = er := ⟨_, rfl⟩
      rw [her] at d1 ⊢
      have HER := Lib.hid (And.intro her hn0); clear her hn0
      go_wp2_with fail
      rw [← HP.out]
      exact HoldPost.no ((holdE_named HER.out.2).trans HER.out.1) (by rw [← HER.out.1]; exact HER.out.2) rfl HD.out.2 (Touch.ofBelow HD.out.1)
  · go_enter Try.func124, Try.ntmps124
    go_wp2_with fail
    refine calls_world (fun W => At W W.heap.size (some ⟨w.heap.size, 0, none⟩) [a] ∧ Below w.heap.size w W ∧ w.heap.size < W.heap.size) ⟨by have := H.out.2.2.2; simpa using this, (Below.refl _ _).alloc (Nat.le_refl _) _, by simp⟩ ?_
    rintro W ⟨hAt, hbW, hsW⟩
    refine (mnamed_any W base p W.heap.size 1 1 F 1 mk s _ _ (H.out.1.fresh hbW) H.out.2.1.fine hAt (Nat.le_refl _) rfl (by decide)).mono ?_
    rintro e w1 ⟨rfl, hb1⟩
    have hs1 := hb1.size
    have hb : Below w.heap.size w w1 := hbW.trans (hb1.mono (by omega))
    have HD := Lib.hid (And.intro hb (H.out.1.fresh hb)); clear hAt hbW hb1 hb
    by_cases hn0 : namedE s [a] = 0
    · rw [hn0]
      obtain ⟨t, rfl, htl, -⟩ := namedE_zero hn0 a (by simp)
      obtain ⟨A, c, l, m1, m2, m3, m4, m5⟩ := HD.out.2
      have hll : l.length = s.length := by rw [← m5, its_length]
      obtain ⟨L, hL⟩ : ∃ L, l.length = L := ⟨_, rfl⟩
      have hsL : s.length = L := by omega
      obtain ⟨x, hx⟩ : ∃ x, l[t]? = some x := ⟨_, List.getElem?_eq_getElem (by omega)⟩
      obtain ⟨g, rfl, hg1, hg2, q0, q1, q2⟩ := m2.cells hx
      have hsx : s[t]? = some x.it := by rw [← m5]; exact its_get hx
      have hhb : heldB s (t : Int) = x.held := by unfold heldB; rw [Int.toNat_natCast, hsx]; rfl
      obtain ⟨xb, hxb⟩ : ∃ b, x.held = b := ⟨_, rfl⟩
      rw [hxb] at q2 hhb
      have p2 := m1.cell 2 (v := .slice (some ⟨g, 0, none⟩) l.length c) rfl
      have p0 := m1.cell 0 (v := .int .i64 1) rfl
      rw [hL] at p2
      have t0 : (0 : Int) ≤ (t : Int) := by omega
      have t1 : (t : Int) < (L : Int) := by omega
      have HX := Lib.hid (And.intro (show MkrL w1 base F p 1 mk (some ⟨g, 0, none⟩) c s l from ⟨m1, m2, m3, m4, m5⟩) (And.intro htl (And.intro hhb (And.intro hn0 (And.intro hsL H.out.2.1.small))))); clear m1 m2 m3 m4 m5 hll hx hsx hhb hxb hn0 hL hsL htl q0 q1
      have hfin := fun (W5 : World) (l5 : List ItR) (h : MkrL W5 base F p 1 mk (some ⟨g, 0, none⟩) c (shadeI mk (t : Int) s) l5) => hold_fin (t := t) (b := true) h (by rw [shadeI_length]; exact HX.out.2.1)
      have HFI := Lib.hid hfin; clear hfin
      go_wp2_with fail
      refine (mshadeL_any w1 base p F 1 (t : Int) mk _ c s l HX.out.1 (.inr ⟨t, rfl, HX.out.2.1⟩) (by have := HX.out.2.2.2.2.2; omega)).mono ?_
      rintro e w5 ⟨rfl, ⟨l5, m5a, m5b⟩, m5c, m5d, m5e⟩
      obtain ⟨f1, f2, ⟨ov, f3⟩, f4, f5⟩ := HFI.out w5 l5 m5a
      rw [shadeI_length, HX.out.2.2.2.2.1] at f5
      have HQ := Lib.hid (And.intro f1 (((Touch.ofBelow HD.out.1).trans m5c).setCell (p := ⟨g, t * 3 + 2, none⟩) f2 (.bool true))); clear f1 f2 m5a m5b m5c m5d m5e p2 p0 q2
      go_wp2_with fail
      rw [← HP.out]
      exact HoldPost.yes (holdE_ok HX.out.2.2.2.1 (by simp)) (by unfold holdI; simp) rfl HQ.out.1 HQ.out.2
    · have d1 : (namedE s [a] != 0) = true := by simpa using hn0
      obtain ⟨er, her⟩ : ∃ er, namedE s [a] = er := ⟨_, rfl⟩
      rw [her] at d1 ⊢
      have HER := Lib.hid (And.intro her hn0); clear her hn0
      go_wp2_with fail
      rw [← HP.out]
      exact HoldPost.no ((holdE_named HER.out.2).trans HER.out.1) (by rw [← HER.out.1]; exact HER.out.2) rfl HD.out.2 (Touch.ofBelow HD.out.1)
  · go_enter Try.func124, Try.ntmps124
    go_wp2_with fail
    refine calls_world (fun W => At W W.heap.size (some ⟨w.heap.size, 0, none⟩) [a] ∧ Below w.heap.size w W ∧ w.heap.size < W.heap.size) ⟨by have := H.out.2.2.2; simpa using this, (Below.refl _ _).alloc (Nat.le_refl _) _, by simp⟩ ?_
    rintro W ⟨hAt, hbW, hsW⟩
    refine (mnamed_any W base p W.heap.size 1 1 F 2 mk s _ _ (H.out.1.fresh hbW) H.out.2.1.fine hAt (Nat.le_refl _) rfl (by decide)).mono ?_
    rintro e w1 ⟨rfl, hb1⟩
    have hs1 := hb1.size
    have hb : Below w.heap.size w w1 := hbW.trans (hb1.mono (by omega))
    have HD := Lib.hid (And.intro hb (H.out.1.fresh hb)); clear hAt hbW hb1 hb
    by_cases hn0 : namedE s [a] = 0
    · rw [hn0]
      obtain ⟨t, rfl, htl, -⟩ := namedE_zero hn0 a (by simp)
      obtain ⟨A, c, l, m1, m2, m3, m4, m5⟩ := HD.out.2
      have hll : l.length = s.length := by rw [← m5, its_length]
      obtain ⟨L, hL⟩ : ∃ L, l.length = L := ⟨_, rfl⟩
      have hsL : s.length = L := by omega
      obtain ⟨x, hx⟩ : ∃ x, l[t]? = some x := ⟨_, List.getElem?_eq_getElem (by omega)⟩
      obtain ⟨g, rfl, hg1, hg2, q0, q1, q2⟩ := m2.cells hx
      have hsx : s[t]? = some x.it := by rw [← m5]; exact its_get hx
      have hhb : heldB s (t : Int) = x.held := by unfold heldB; rw [Int.toNat_natCast, hsx]; rfl
      obtain ⟨xb, hxb⟩ : ∃ b, x.held = b := ⟨_, rfl⟩
      rw [hxb] at q2 hhb
      have p2 := m1.cell 2 (v := .slice (some ⟨g, 0, none⟩) l.length c) rfl
      have p0 := m1.cell 0 (v := .int .i64 2) rfl
      rw [hL] at p2
      have t0 : (0 : Int) ≤ (t : Int) := by omega
      have t1 : (t : Int) < (L : Int) := by omega
      have HX := Lib.hid (And.intro (show MkrL w1 base F p 2 mk (some ⟨g, 0, none⟩) c s l from ⟨m1, m2, m3, m4, m5⟩) (And.intro htl (And.intro hhb (And.intro hn0 (And.intro hsL H.out.2.1.small))))); clear m1 m2 m3 m4 m5 hll hx hsx hhb hxb hn0 hL hsL htl q0 q1
      cases xb with
      | false =>
        go_wp2_with fail
        rw [← HP.out]
        exact HoldPost.no (holdE_state HX.out.2.2.2.1 ⟨rfl, HX.out.2.2.1⟩) (by decide) rfl HD.out.2 (Touch.ofBelow HD.out.1)
      | true =>
        have hfin := fun (W5 : World) (l5 : List ItR) (h : MkrL W5 base F p 2 mk (some ⟨g, 0, none⟩) c (shadeI mk (t : Int) s) l5) => hold_fin (t := t) (b := false) h (by rw [shadeI_length]; exact HX.out.2.1)
        have HFI := Lib.hid hfin; clear hfin
        go_wp2_with fail
        refine (mshadeL_any w1 base p F 2 (t : Int) mk _ c s l HX.out.1 (.inr ⟨t, rfl, HX.out.2.1⟩) (by have := HX.out.2.2.2.2.2; omega)).mono ?_
        rintro e w5 ⟨rfl, ⟨l5, m5a, m5b⟩, m5c, m5d, m5e⟩
        obtain ⟨f1, f2, ⟨ov, f3⟩, f4, f5⟩ := HFI.out w5 l5 m5a
        rw [shadeI_length, HX.out.2.2.2.2.1] at f5
        have HQ := Lib.hid (And.intro f1 (((Touch.ofBelow HD.out.1).trans m5c).setCell (p := ⟨g, t * 3 + 2, none⟩) f2 (.bool false))); clear f1 f2 m5a m5b m5c m5d m5e p2 p0 q2
        go_wp2_with fail
        rw [← HP.out]
        exact HoldPost.yes (holdE_ok HX.out.2.2.2.1 (by rw [HX.out.2.2.1]; simp)) (by unfold holdI; simp) rfl HQ.out.1 HQ.out.2
    · have d1 : (namedE s [a] != 0) = true := by simpa using hn0
      obtain ⟨er, her⟩ : ∃ er, namedE s [a] = er := ⟨_, rfl⟩
      rw [her] at d1 ⊢
      have HER := Lib.hid (And.intro her hn0); clear her hn0
      go_wp2_with fail
      rw [← HP.out]
      exact HoldPost.no ((holdE_named HER.out.2).trans HER.out.1) (by rw [← HER.out.1]; exact HER.out.2) rfl HD.out.2 (Touch.ofBelow HD.out.1)
  · go_enter Try.func124, Try.ntmps124
    go_wp2_with fail
    refine calls_world (fun W => At W W.heap.size (some ⟨w.heap.size, 0, none⟩) [a] ∧ Below w.heap.size w W ∧ w.heap.size < W.heap.size) ⟨by have := H.out.2.2.2; simpa using this, (Below.refl _ _).alloc (Nat.le_refl _) _, by simp⟩ ?_
    rintro W ⟨hAt, hbW, hsW⟩
    refine (mnamed_any W base p W.heap.size 1 1 F 2 mk s _ _ (H.out.1.fresh hbW) H.out.2.1.fine hAt (Nat.le_refl _) rfl (by decide)).mono ?_
    rintro e w1 ⟨rfl, hb1⟩
    have hs1 := hb1.size
    have hb : Below w.heap.size w w1 := hbW.trans (hb1.mono (by omega))
    have HD := Lib.hid (And.intro hb (H.out.1.fresh hb)); clear hAt hbW hb1 hb
    by_cases hn0 : namedE s [a] = 0
    · rw [hn0]
      obtain ⟨t, rfl, htl, -⟩ := namedE_zero hn0 a (by simp)
      obtain ⟨A, c, l, m1, m2, m3, m4, m5⟩ := HD.out.2
      have hll : l.length = s.length := by rw [← m5, its_length]
      obtain ⟨L, hL⟩ : ∃ L, l.length = L := ⟨_, rfl⟩
      have hsL : s.length = L := by omega
      obtain ⟨x, hx⟩ : ∃ x, l[t]? = some x := ⟨_, List.getElem?_eq_getElem (by omega)⟩
      obtain ⟨g, rfl, hg1, hg2, q0, q1, q2⟩ := m2.cells hx
      have hsx : s[t]? = some x.it := by rw [← m5]; exact its_get hx
      have hhb : heldB s (t : Int) = x.held := by unfold heldB; rw [Int.toNat_natCast, hsx]; rfl
      obtain ⟨xb, hxb⟩ : ∃ b, x.held = b := ⟨_, rfl⟩
      rw [hxb] at q2 hhb
      have p2 := m1.cell 2 (v := .slice (some ⟨g, 0, none⟩) l.length c) rfl
      have p0 := m1.cell 0 (v := .int .i64 2) rfl
      rw [hL] at p2
      have t0 : (0 : Int) ≤ (t : Int) := by omega
      have t1 : (t : Int) < (L : Int) := by omega
      have HX := Lib.hid (And.intro (show MkrL w1 base F p 2 mk (some ⟨g, 0, none⟩) c s l from ⟨m1, m2, m3, m4, m5⟩) (And.intro htl (And.intro hhb (And.intro hn0 (And.intro hsL H.out.2.1.small))))); clear m1 m2 m3 m4 m5 hll hx hsx hhb hxb hn0 hL hsL htl q0 q1
      obtain ⟨f1, f2, ⟨ov, f3⟩, f4, f5⟩ := hold_fin (t := t) (b := true) HX.out.1 HX.out.2.1
      have HQ := Lib.hid (And.intro f1 ((Touch.ofBelow HD.out.1).setCell (p := ⟨g, t * 3 + 2, none⟩) f2 (.bool true))); clear f1 f2 f5 f3
      go_wp2_with fail
      rw [← HP.out]
      exact HoldPost.yes (holdE_ok HX.out.2.2.2.1 (by simp)) (by unfold holdI; simp) rfl HQ.out.1 HQ.out.2
    · have d1 : (namedE s [a] != 0) = true := by simpa using hn0
      obtain ⟨er, her⟩ : ∃ er, namedE s [a] = er := ⟨_, rfl⟩
      rw [her] at d1 ⊢
      have HER := Lib.hid (And.intro her hn0); clear her hn0
      go_wp2_with fail
      rw [← HP.out]
      exact HoldPost.no ((holdE_named HER.out.2).trans HER.out.1) (by rw [← HER.out.1]; exact HER.out.2) rfl HD.out.2 (Touch.ofBelow HD.out.1)

end Go.Proofs.Ytpkccpegdpodoaa

/- mark: Do. -/
namespace Go.Proofs.Ytpkccpegdpodoaa
open Go.RowKit

attribute [local go_sem ↓] Go.wp_at_zero Go.wp_at_succ

/-- what a deed leaves -/
def DoPost (base p : Nat) (F : Nat → Prop) (kind : Int) (w : World) (r : Int × Int × Bool × List It) (e : Ending) (w' : World) : Prop :=
  e = .returned (.tuple #[.int .i64 r.1, .int .i64 r.2.1]) ∧ Mkr w' base (Up F w w') p kind r.2.2.1 r.2.2.2 ∧ Touch F w w'
theorem DoPost.of {base p : Nat} {F : Nat → Prop} {kind : Int} {w w' : World} {r : Int × Int × Bool × List It} {e : Ending} {m n : Int} {mk' : Bool} {s' : List It} (hr : r = (m, n, mk', s')) (he : e = .returned (.tuple #[.int .i64 m, .int .i64 n])) (hm : Mkr w' base (Up F w w') p kind mk' s') (hT : Touch F w w') : DoPost base p F kind w r e w' := by
  subst hr; exact ⟨he, hm, hT⟩
theorem DoPost.same {base p : Nat} {F : Nat → Prop} {kind : Int} {w w' : World} {r : Int × Int × Bool × List It} {e : Ending} {m n : Int} {mk' : Bool} {s' : List It} (hr : r = (m, n, mk', s')) (he : e = .returned (.tuple #[.int .i64 m, .int .i64 n])) (hm : Mkr w' base F p kind mk' s') (hT : Touch F w w') : DoPost base p F kind w r e w' :=
  DoPost.of hr he (hm.mono fun g hg => .inl hg) hT

theorem Up.from {F : Nat → Prop} {w w1 w' : World} (h : w.heap.size ≤ w1.heap.size) {g : Nat} (hg : Up F w1 w' g) : Up F w w' g := hg.elim .inl fun h1 => .inr ⟨by omega, h1.2⟩

set_option maxHeartbeats 1600000 in
set_option maxRecDepth 100000 in
theorem mdo_any (w : World) (base p : Nat) (F : Nat → Prop) (kind dd a b n : Int) (mk : Bool) (s : List It) (h : Mkr w base F p kind mk s) (hi : MInv kind mk s) (hk : kind = 1 ∨ kind = 2) (hF : ∀ g, F g → g < w.heap.size) (hd : I64 a ∧ I64 b ∧ I64 n) :
    Calls Try.prog 52 #[.pointer (some ⟨p, 0, none⟩), .agg #[.int .i64 dd, .int .i64 a, .int .i64 b, .int .i64 n]] w (DoPost base p F kind w (marksI kind mk s ⟨dd, a, b, n⟩)) := by
  obtain ⟨P, hP⟩ : ∃ P, DoPost base p F kind w (marksI kind mk s ⟨dd, a, b, n⟩) = P := ⟨_, rfl⟩
  have HP := Lib.hid hP
  rw [hP]; clear hP
  obtain ⟨W, hW⟩ : ∃ W, W = w.alloc (.cells #[.int .i64 dd, .int .i64 a, .int .i64 b, .int .i64 n] 97) := ⟨_, rfl⟩
  have hbW : Below w.heap.size w W := by rw [hW]; exact (Below.refl _ _).alloc (Nat.le_refl _) _
  have hsW : w.heap.size < W.heap.size := by rw [hW]; simp
  have hFW : ∀ g, F g → g < W.heap.size := fun g hg => by have := hF g hg; omega
  have hs1 := hi.small
  have H := Lib.hid (And.intro (h.fresh hbW) (And.intro hi (And.intro hk (And.intro hFW (And.intro hd (And.intro hbW hW)))))); clear h hi hk hF hFW hd hbW hW
  by_cases h1 : dd = 1
  · subst h1
    have hr : marksI kind mk s ⟨1, a, b, n⟩ = if newE s n ≠ 0 then (0, newE s n, mk, s) else ((s.length : Int), 0, mk, s ++ [newI (if mk = true then 2 else 0) n]) := if_pos rfl
    by_cases he : newE s n = 0
    · rw [if_neg (by simpa using he)] at hr
      have HR := Lib.hid (And.intro hr he); clear hr he
      go_enter Try.func52, Try.ntmps52
      go_wp2_with fail
      refine calls_world (fun V => W = V) H.out.2.2.2.2.2.2 ?_
      rintro V rfl
      refine (make_yes W base p F kind n mk s H.out.1 H.out.2.2.2.1 HR.out.2).mono ?_
      rintro e w1 ⟨rfl, hm1, hT1⟩
      have HZ := Lib.hid (And.intro (hm1.mono (fun g hg => Up.from (Nat.le_of_lt hsW) hg)) ((Touch.ofBelow H.out.2.2.2.2.2.1).trans hT1)); clear hm1 hT1
      go_wp2_with fail
      rw [← HP.out]
      exact DoPost.of HR.out.1 rfl HZ.out.1 HZ.out.2
    · rw [if_pos (by simpa using he)] at hr
      have HR := Lib.hid (And.intro hr he); clear hr he
      go_enter Try.func52, Try.ntmps52
      go_wp2_with fail
      refine calls_world (fun V => W = V) H.out.2.2.2.2.2.2 ?_
      rintro V rfl
      refine (make_no W base p F kind n mk s H.out.1 (by omega) HR.out.2).mono ?_
      rintro e w1 ⟨rfl, rfl⟩
      go_wp2_with fail
      rw [← HP.out]
      exact DoPost.same HR.out.1 rfl H.out.1 (Touch.ofBelow H.out.2.2.2.2.2.1)
  have d1 : (dd == 1) = false := by simpa using h1
  by_cases h2 : dd = 2
  · subst h2
    have hr : marksI kind mk s ⟨2, a, b, n⟩ = (0, setE s ⟨2, a, b, n⟩, mk, if setE s ⟨2, a, b, n⟩ = 0 then setI kind mk ⟨2, a, b, n⟩ s else s) := by
      unfold marksI
      rw [if_neg h1, if_pos rfl]
      split
      · rename_i hq; first | rfl | rw [if_neg hq]
      · rename_i hq; have hq' : setE s ⟨2, a, b, n⟩ = 0 := by simpa using hq
        rw [hq', if_pos rfl]
    have HR := Lib.hid hr; clear hr d1 h1
    go_enter Try.func52, Try.ntmps52
    go_wp2_with fail
    refine calls_world (fun V => W = V) H.out.2.2.2.2.2.2 ?_
    rintro V rfl
    refine (set_any W base p F kind 2 a b n mk s H.out.1 H.out.2.1 H.out.2.2.1 H.out.2.2.2.1 H.out.2.2.2.2.1).mono ?_
    rintro e w1 ⟨rfl, hm1, hT1⟩
    have HZ := Lib.hid (And.intro hm1 ((Touch.ofBelow H.out.2.2.2.2.2.1).trans hT1)); clear hm1 hT1
    go_wp2_with fail
    rw [← HP.out]
    exact DoPost.same HR.out rfl HZ.out.1 HZ.out.2
  have d2 : (dd == 2) = false := by simpa using h2
  by_cases h4 : dd = 4
  · subst h4
    have hr : marksI kind mk s ⟨4, a, b, n⟩ = (0, holdE s ⟨4, a, b, n⟩, mk, if holdE s ⟨4, a, b, n⟩ = 0 then holdI kind mk ⟨4, a, b, n⟩ s else s) := by
      unfold marksI
      rw [if_neg h1, if_neg h2, if_pos (by simp)]
      split
      · rename_i hq; first | rfl | rw [if_neg hq]
      · rename_i hq; have hq' : holdE s ⟨4, a, b, n⟩ = 0 := by simpa using hq
        rw [hq', if_pos rfl]
    have HR := Lib.hid hr; clear hr d1 h1 d2 h2
    go_enter Try.func52, Try.ntmps52
    go_wp2_with fail
    refine calls_world (fun V => W = V) H.out.2.2.2.2.2.2 ?_
    rintro V rfl
    refine (hold_any W base p F kind 4 a b n mk true s H.out.1 H.out.2.1 H.out.2.2.1 H.out.2.2.2.1 H.out.2.2.2.2.1.1 (by simp)).mono ?_
    rintro e w1 ⟨rfl, hm1, hT1⟩
    have HZ := Lib.hid (And.intro hm1 ((Touch.ofBelow H.out.2.2.2.2.2.1).trans hT1)); clear hm1 hT1
    go_wp2_with fail
    rw [← HP.out]
    exact DoPost.same HR.out rfl HZ.out.1 HZ.out.2
  have d4 : (dd == 4) = false := by simpa using h4
  by_cases h3 : dd = 3
  · subst h3
    have hr : marksI kind mk s ⟨3, a, b, n⟩ = (0, holdE s ⟨3, a, b, n⟩, mk, if holdE s ⟨3, a, b, n⟩ = 0 then holdI kind mk ⟨3, a, b, n⟩ s else s) := by
      unfold marksI
      rw [if_neg h1, if_neg h2, if_pos (by simp)]
      split
      · rename_i hq; first | rfl | rw [if_neg hq]
      · rename_i hq; have hq' : holdE s ⟨3, a, b, n⟩ = 0 := by simpa using hq
        rw [hq', if_pos rfl]
    have HR := Lib.hid hr; clear hr d1 h1 d2 h2 d4 h4
    go_enter Try.func52, Try.ntmps52
    go_wp2_with fail
    refine calls_world (fun V => W = V) H.out.2.2.2.2.2.2 ?_
    rintro V rfl
    refine (hold_any W base p F kind 3 a b n mk false s H.out.1 H.out.2.1 H.out.2.2.1 H.out.2.2.2.1 H.out.2.2.2.2.1.1 (by simp)).mono ?_
    rintro e w1 ⟨rfl, hm1, hT1⟩
    have HZ := Lib.hid (And.intro hm1 ((Touch.ofBelow H.out.2.2.2.2.2.1).trans hT1)); clear hm1 hT1
    go_wp2_with fail
    rw [← HP.out]
    exact DoPost.same HR.out rfl HZ.out.1 HZ.out.2
  have d3 : (dd == 3) = false := by simpa using h3
  have h34 : ¬ (dd = 4 ∨ dd = 3) := by rintro (h | h) <;> first | exact h4 h | exact h3 h
  by_cases h6 : dd = 6
  · subst h6
    have hr : marksI kind mk s ⟨6, a, b, n⟩ = if mk = true then (0, 8, mk, s) else ((heldN s : Int), 0, true, beginI s) := by
      unfold marksI
      rw [if_neg h1, if_neg h2, if_neg h34, if_pos rfl]
    cases mk with
    | true =>
      rw [if_pos rfl] at hr
      have HR := Lib.hid hr; clear hr d1 h1 d2 h2 d4 h4 d3 h3 h34
      go_enter Try.func52, Try.ntmps52
      go_wp2_with fail
      refine calls_world (fun V => W = V) H.out.2.2.2.2.2.2 ?_
      rintro V rfl
      refine (begin_no W base p F kind s H.out.1).mono ?_
      rintro e w1 ⟨rfl, rfl⟩
      go_wp2_with fail
      rw [← HP.out]
      exact DoPost.same HR.out rfl H.out.1 (Touch.ofBelow H.out.2.2.2.2.2.1)
    | false =>
      rw [if_neg (by simp)] at hr
      have HR := Lib.hid hr; clear hr d1 h1 d2 h2 d4 h4 d3 h3 h34
      go_enter Try.func52, Try.ntmps52
      go_wp2_with fail
      refine calls_world (fun V => W = V) H.out.2.2.2.2.2.2 ?_
      rintro V rfl
      refine (begin_yes W base p F kind s H.out.1 hs1).mono ?_
      rintro e w1 ⟨rfl, hm1, hT1⟩
      have HZ := Lib.hid (And.intro hm1 ((Touch.ofBelow H.out.2.2.2.2.2.1).trans hT1)); clear hm1 hT1
      go_wp2_with fail
      rw [← HP.out]
      exact DoPost.same HR.out rfl HZ.out.1 HZ.out.2
  have d6 : (dd == 6) = false := by simpa using h6
  by_cases h5 : dd = 5
  · subst h5
    have hr : marksI kind mk s ⟨5, a, b, n⟩ = if mk = false then (0, 8, mk, s) else if n < 0 then (0, 1, mk, s) else (((stepsI n.toNat s).2 : Int), 0, mk, (stepsI n.toNat s).1) := by
      unfold marksI
      rw [if_neg h1, if_neg h2, if_neg h34, if_neg h6, if_pos rfl]
    cases mk with
    | false =>
      rw [if_pos rfl] at hr
      have HR := Lib.hid hr; clear hr d1 h1 d2 h2 d4 h4 d3 h3 h34 d6 h6
      go_enter Try.func52, Try.ntmps52
      go_wp2_with fail
      refine calls_world (fun V => W = V) H.out.2.2.2.2.2.2 ?_
      rintro V rfl
      refine (steps_no W base p F kind n s H.out.1).mono ?_
      rintro e w1 ⟨rfl, rfl⟩
      go_wp2_with fail
      rw [← HP.out]
      exact DoPost.same HR.out rfl H.out.1 (Touch.ofBelow H.out.2.2.2.2.2.1)
    | true =>
      rw [if_neg (by simp)] at hr
      by_cases hn : n < 0
      · rw [if_pos hn] at hr
        have HR := Lib.hid hr; clear hr d1 h1 d2 h2 d4 h4 d3 h3 h34 d6 h6
        go_enter Try.func52, Try.ntmps52
        go_wp2_with fail
        refine calls_world (fun V => W = V) H.out.2.2.2.2.2.2 ?_
        rintro V rfl
        refine (steps_neg W base p F kind n s H.out.1 hn).mono ?_
        rintro e w1 ⟨rfl, rfl⟩
        go_wp2_with fail
        rw [← HP.out]
        exact DoPost.same HR.out rfl H.out.1 (Touch.ofBelow H.out.2.2.2.2.2.1)
      · rw [if_neg hn] at hr
        obtain ⟨j, rfl⟩ : ∃ j : Nat, n = (j : Int) := ⟨n.toNat, by omega⟩
        rw [Int.toNat_natCast] at hr
        have hj9 : j ≤ 9223372036854775807 := by have := H.out.2.2.2.2.1.2.2.2; omega
        have HR := Lib.hid hr; clear hr d1 h1 d2 h2 d4 h4 d3 h3 h34 d6 h6
        go_enter Try.func52, Try.ntmps52
        go_wp2_with fail
        refine calls_world (fun V => W = V) H.out.2.2.2.2.2.2 ?_
        rintro V rfl
        refine (steps_yes W base p j F kind s H.out.1 H.out.2.1 hj9).mono ?_
        rintro e w1 ⟨rfl, hm1, hT1⟩
        have HZ := Lib.hid (And.intro hm1 ((Touch.ofBelow H.out.2.2.2.2.2.1).trans hT1)); clear hm1 hT1
        go_wp2_with fail
        rw [← HP.out]
        exact DoPost.same HR.out rfl HZ.out.1 HZ.out.2
  have d5 : (dd == 5) = false := by simpa using h5
  by_cases h7 : dd = 7
  · subst h7
    have hr : marksI kind mk s ⟨7, a, b, n⟩ = if mk = false then (0, 8, mk, s) else ((endN s : Int), 0, false, endI s) := by
      unfold marksI
      rw [if_neg h1, if_neg h2, if_neg h34, if_neg h6, if_neg h5, if_pos rfl]
    cases mk with
    | false =>
      rw [if_pos rfl] at hr
      have HR := Lib.hid hr; clear hr d1 h1 d2 h2 d4 h4 d3 h3 h34 d6 h6 d5 h5
      go_enter Try.func52, Try.ntmps52
      go_wp2_with fail
      refine calls_world (fun V => W = V) H.out.2.2.2.2.2.2 ?_
      rintro V rfl
      refine (end_no W base p F kind s H.out.1).mono ?_
      rintro e w1 ⟨rfl, rfl⟩
      go_wp2_with fail
      rw [← HP.out]
      exact DoPost.same HR.out rfl H.out.1 (Touch.ofBelow H.out.2.2.2.2.2.1)
    | true =>
      rw [if_neg (by simp)] at hr
      have HR := Lib.hid hr; clear hr d1 h1 d2 h2 d4 h4 d3 h3 h34 d6 h6 d5 h5
      go_enter Try.func52, Try.ntmps52
      go_wp2_with fail
      refine calls_world (fun V => W = V) H.out.2.2.2.2.2.2 ?_
      rintro V rfl
      refine (end_yes W base p F kind s H.out.1 H.out.2.1).mono ?_
      rintro e w1 ⟨rfl, hm1, hT1⟩
      have HZ := Lib.hid (And.intro hm1 ((Touch.ofBelow H.out.2.2.2.2.2.1).trans hT1)); clear hm1 hT1
      go_wp2_with fail
      rw [← HP.out]
      exact DoPost.same HR.out rfl HZ.out.1 HZ.out.2
  have d7 : (dd == 7) = false := by simpa using h7
  have hr : marksI kind mk s ⟨dd, a, b, n⟩ = (0, 7, mk, s) := by
    unfold marksI
    rw [if_neg h1, if_neg h2, if_neg h34, if_neg h6, if_neg h5, if_neg h7]
  have HR := Lib.hid hr; clear hr h1 h2 h4 h3 h34 h6 h5 h7
  go_enter Try.func52, Try.ntmps52
  go_wp2_with fail
  rw [← HP.out]
  rw [← H.out.2.2.2.2.2.2]
  exact DoPost.same HR.out rfl H.out.1 (Touch.ofBelow H.out.2.2.2.2.2.1)

end Go.Proofs.Ytpkccpegdpodoaa

/- R.Model: what is wrong with a setting, with a holding. -/
namespace Go.Proofs.Ytpkccpegdpodoaa
open Go.RowKit

attribute [local go_sem ↓] Go.wp_at_zero Go.wp_at_succ

set_option maxHeartbeats 1600000 in
set_option maxRecDepth 100000 in
theorem setFault_any (w : World) (base p : Nat) (F : Nat → Prop) (nu kind dd a b n : Int) (mk : Bool) (s : List It) (h : Mdl w base F p nu kind mk s) (hi : Fine s) (hd : I64 a ∧ I64 b ∧ I64 n) :
    Calls Try.prog 130 #[.pointer (some ⟨p, 0, none⟩), .agg #[.int .i64 dd, .int .i64 a, .int .i64 b, .int .i64 n]] w fun e w' => e = .returned (.int .i64 (setE s ⟨dd, a, b, n⟩)) ∧ Below w.heap.size w w' := by
  obtain ⟨i0, hi0, hz0, hz1, hz2⟩ := info_parts infoInt
  have hp : p < w.heap.size := by obtain ⟨A, c, l, h1, -⟩ := h; exact h1.lt
  have H := Lib.hid (And.intro h (And.intro hi hd)); clear h hi hd
  have hls : (b != -1) = false ∧ setL ⟨dd, a, b, n⟩ = [a] ∨ (b != -1) = true ∧ setL ⟨dd, a, b, n⟩ = [a] ++ [b] := by
    by_cases hb : b = -1
    · exact .inl ⟨by simpa using hb, if_pos hb⟩
    · exact .inr ⟨by simpa using hb, if_neg hb⟩
  have hat1 : ∀ V : World, At (V.alloc (.cells #[.int .i64 a] 3)) (V.heap.size + 1) (some ⟨V.heap.size, 0, none⟩) [a] := fun V => At.built V _ _ [a] rfl (by
    intro z hz; simp at hz; subst hz; exact H.out.2.2.1)
  have hat2 : ∀ V : World, At (V.alloc (.cells #[.int .i64 b] 3)) (V.heap.size + 1) (some ⟨V.heap.size, 0, none⟩) [b] := fun V => At.built V _ _ [b] rfl (by
    intro z hz; simp at hz; subst hz; exact H.out.2.2.2.1)
  have hown1 : ∀ V : World, w.heap.size ≤ V.heap.size → Own (V.alloc (.cells #[.int .i64 a] 3)) w.heap.size 3 (some ⟨V.heap.size, 0, none⟩) 1 [a] := fun V hV =>
    ⟨flat_length _, .inr ⟨V.heap.size, 1, #[.int .i64 a], rfl, hV, heap_alloc_new V _, Nat.le_refl _, by simp [maxLen], rfl, rfl⟩⟩
  have HA := Lib.hid (And.intro hat1 (And.intro hat2 hown1)); clear hat1 hat2 hown1
  rcases hls with ⟨d0, hl⟩ | ⟨d0, hl⟩
  all_goals
    have HL := Lib.hid hl; clear hl
    go_enter Try.func130, Try.ntmps130
    go_upto_region 4 with (at_builtin; go_must (refine wpList_app (α := Int) (n := 1) (m := 1) (B := (w.heap.size + 1 + 1) + 1) (r := [b]) rfl (.tmp 13) (.tmp 16) _ rfl w.heap.size 3 i0 _ 8 Try.underlying47 hi0 hz0 hz1 hz2 rfl (by decide) int_one (by rfl) (l := [a]) rfl (by have := (HA.out.2.2 (w.alloc (.cells #[.int .i64 dd, .int .i64 a, .int .i64 b, .int .i64 n] 97)) (by simp)).alloc (.cells #[.int .i64 b] 3); simpa using this) (by rfl) (by have := HA.out.2.1 ((w.alloc (.cells #[.int .i64 dd, .int .i64 a, .int .i64 b, .int .i64 n] 97)).alloc (.cells #[.int .i64 a] 3)); simpa using this) rfl (by omega) (by simp only [maxLen]; omega) (by simp; omega) ?_); intro A3 c3 w3 ho3 hgr3 hat3)
    first
      | (refine wp_world (fun W => Blk W w.heap.size 97 #[.int .i64 dd, .int .i64 a, .int .i64 b, .int .i64 n] ∧ At W W.heap.size A3 (setL ⟨dd, a, b, n⟩) ∧ Below w.heap.size w W ∧ w.heap.size < W.heap.size) ⟨?_, ?_, ?_, ?_⟩ ?_)
      | (refine wp_world (fun W => Blk W w.heap.size 97 #[.int .i64 dd, .int .i64 a, .int .i64 b, .int .i64 n] ∧ At W W.heap.size (some ⟨w.heap.size + 1, 0, none⟩) (setL ⟨dd, a, b, n⟩) ∧ Below w.heap.size w W ∧ w.heap.size < W.heap.size) ⟨?_, ?_, ?_, ?_⟩ ?_)
    · first
        | exact (Blk.new w _ _).alloc _
        | exact (((Blk.new w _ _).alloc _).alloc _).grown hgr3 (by simp [rowOf])
    · first
        | (rw [HL.out]; have := HA.out.1 (w.alloc (.cells #[.int .i64 dd, .int .i64 a, .int .i64 b, .int .i64 n] 97)); simpa using this)
        | (rw [HL.out]; exact ho3.at_ (by intro z hz; simp at hz; rcases hz with rfl | rfl; exact H.out.2.2.1; exact H.out.2.2.2.1))
    · first
        | exact ((Below.refl _ _).alloc (Nat.le_refl _) _).alloc (by simp) _
        | exact ((((Below.refl _ _).alloc (Nat.le_refl _) _).alloc (by simp) _).alloc (by simp; omega) _).grown hgr3 (by simp; omega) (by simp [rowOf])
    · first
        | (simp; omega)
        | (have := hgr3.size; simp only [World.size_alloc] at this; omega)
    rintro W ⟨hD, hAt, hbW, hsW⟩
    try clear ho3 hgr3 hat3
    go_wp2_with fail
    refine (rnamed_any W base p W.heap.size _ _ F nu kind mk s _ _ (H.out.1.fresh hbW) H.out.2.1 hAt (Nat.le_refl _) (by rw [HL.out]; rfl) (by decide)).mono ?_
    rintro e w1 ⟨rfl, hb1⟩
    have hs1 := hb1.size
    have hb : Below w.heap.size w w1 := hbW.trans (hb1.mono (by omega))
    have HD := Lib.hid (And.intro (hD.fresh hb1) (And.intro hb (H.out.1.fresh hb))); clear hD hAt hbW hb1 hb
    have e3 := HD.out.1.cell 3 (v := .int .i64 n) rfl
    by_cases hn0 : namedE s (setL ⟨dd, a, b, n⟩) = 0
    · rw [hn0]
      obtain ⟨t, rfl, htl, -⟩ := namedE_zero hn0 a (by rw [HL.out]; simp)
      obtain ⟨A, c, l, m1, m2, m3, m4, m5⟩ := HD.out.2.2
      have hll : l.length = s.length := by rw [← m5, its_length]
      obtain ⟨L, hL⟩ : ∃ L, l.length = L := ⟨_, rfl⟩
      rw [hL] at m1
      obtain ⟨x, hx⟩ : ∃ x, l[t]? = some x := ⟨_, List.getElem?_eq_getElem (by omega)⟩
      obtain ⟨g, rfl, hg1, hg2, q0, q1, q2⟩ := m2.cells hx
      have hsx : s[t]? = some x.it := by rw [← m5]; exact its_get hx
      have hat : hasAt s (t : Int) = x.has := by unfold hasAt; rw [Int.toNat_natCast, hsx]; rfl
      obtain ⟨xh, hxh⟩ : ∃ h, x.has = h := ⟨_, rfl⟩
      obtain ⟨xn, hxn⟩ : ∃ n, xh.length = n := ⟨_, rfl⟩
      rw [hxh, hxn] at q0
      rw [hxh] at hat
      have p0 := m1.cell 0 (v := .slice (some ⟨g, 0, none⟩) L c) rfl
      have e1 := HD.out.1.cell 1 (v := .int .i64 (t : Int)) rfl
      have t0 : (0 : Int) ≤ (t : Int) := by omega
      have t1 : (t : Int) < (L : Int) := by omega
      have HX := Lib.hid (And.intro hn0 (And.intro hat hxn)); clear m1 m2 m3 m5 hll hx hsx hxn hat hn0 hL htl hxh q1 q2
      by_cases hr0 : n < 0
      · have HR := Lib.hid (setE_range (d := ⟨dd, (t : Int), b, n⟩) HX.out.1 (.inl hr0))
        have dr : decide (n < 0) = true := by simpa using hr0
        go_wp2_with fail
        go_quiet (fail)
        go_wp2_with fail
        go_ret
        exact ⟨by rw [HR.out]; rfl, below_drewN HD.out.2.1 _⟩
      · by_cases hr1 : (xn : Int) ≤ n
        · have HR := Lib.hid (setE_range (d := ⟨dd, (t : Int), b, n⟩) HX.out.1 (.inr (by rw [HX.out.2.1, HX.out.2.2]; exact hr1)))
          have dr0 : decide (n < 0) = false := by simpa using hr0
          have dr1 : decide ((xn : Int) ≤ n) = true := by simpa using hr1
          go_wp2_with fail
          go_quiet (fail)
          go_wp2_with fail
          go_ret
          exact ⟨by rw [HR.out]; rfl, below_drewN HD.out.2.1 _⟩
        · have HR := Lib.hid (setE_ok (d := ⟨dd, (t : Int), b, n⟩) HX.out.1 (by rw [HX.out.2.1, HX.out.2.2]; simp only; omega))
          have dr0 : decide (n < 0) = false := by simpa using hr0
          have dr1 : decide ((xn : Int) ≤ n) = false := by simpa using hr1
          go_wp2_with fail
          go_quiet (fail)
          go_wp2_with fail
          go_ret
          exact ⟨by rw [HR.out]; rfl, below_drewN HD.out.2.1 _⟩
    · have d1 : (namedE s (setL ⟨dd, a, b, n⟩) == 0) = false := by simpa using hn0
      obtain ⟨er, her⟩ : ∃ er, namedE s (setL ⟨dd, a, b, n⟩) = er := ⟨_, rfl⟩
      rw [her] at d1 ⊢
      have HER := Lib.hid (And.intro her hn0); clear her hn0
      go_wp2_with fail
      go_quiet (fail)
      go_wp2_with fail
      go_ret
      exact ⟨by rw [setE_named HER.out.2, HER.out.1]; rfl, below_drewN HD.out.2.1 _⟩

end Go.Proofs.Ytpkccpegdpodoaa

/- R.Model: what is wrong with a holding. -/
namespace Go.Proofs.Ytpkccpegdpodoaa
open Go.RowKit

attribute [local go_sem ↓] Go.wp_at_zero Go.wp_at_succ

set_option maxHeartbeats 1600000 in
set_option maxRecDepth 100000 in
theorem holdFault_any (w : World) (base p : Nat) (F : Nat → Prop) (nu kind dd a b n : Int) (mk : Bool) (s : List It) (h : Mdl w base F p nu kind mk s) (hi : Fine s) (hd : I64 a) :
    Calls Try.prog 132 #[.pointer (some ⟨p, 0, none⟩), .agg #[.int .i64 dd, .int .i64 a, .int .i64 b, .int .i64 n]] w fun e w' => e = .returned (.int .i64 (holdE s ⟨dd, a, b, n⟩)) ∧ Below w.heap.size w w' := by
  have hat : ∀ V : World, At (V.alloc (.cells #[.int .i64 a] 3)) (V.heap.size + 1) (some ⟨V.heap.size, 0, none⟩) [a] := fun V => At.built V _ _ [a] rfl (by
    intro z hz; simp at hz; subst hz; exact hd)
  have H := Lib.hid (And.intro h (And.intro hi hat)); clear h hi hd hat
  go_enter Try.func132, Try.ntmps132
  go_wp2_with fail
  refine calls_world (fun W => Blk W w.heap.size 97 #[.int .i64 dd, .int .i64 a, .int .i64 b, .int .i64 n] ∧ At W W.heap.size (some ⟨w.heap.size + 1, 0, none⟩) [a] ∧ Below w.heap.size w W ∧ w.heap.size < W.heap.size) ⟨(Blk.new w _ _).alloc _, ?_, ((Below.refl _ _).alloc (Nat.le_refl _) _).alloc (by simp) _, by simp; omega⟩ ?_
  · have := H.out.2.2 (w.alloc (.cells #[.int .i64 dd, .int .i64 a, .int .i64 b, .int .i64 n] 97))
    simpa using this
  rintro W ⟨hD, hAt, hbW, hsW⟩
  refine (rnamed_any W base p W.heap.size _ _ F nu kind mk s _ _ (H.out.1.fresh hbW) H.out.2.1 hAt (Nat.le_refl _) rfl (by simp)).mono ?_
  rintro e w1 ⟨rfl, hb1⟩
  have hs1 := hb1.size
  have hb : Below w.heap.size w w1 := hbW.trans (hb1.mono (by omega))
  have HD := Lib.hid (And.intro (hD.fresh hb1) (And.intro hb (H.out.1.fresh hb))); clear hD hAt hbW hb1 hb
  have e0 := HD.out.1.cell 0 (v := .int .i64 dd) rfl
  by_cases hn0 : namedE s [a] = 0
  · rw [hn0]
    obtain ⟨t, rfl, htl, -⟩ := namedE_zero hn0 a (by simp)
    obtain ⟨A, c, l, m1, m2, m3, m4, m5⟩ := HD.out.2.2
    have hll : l.length = s.length := by rw [← m5, its_length]
    obtain ⟨L, hL⟩ : ∃ L, l.length = L := ⟨_, rfl⟩
    rw [hL] at m1
    obtain ⟨x, hx⟩ : ∃ x, l[t]? = some x := ⟨_, List.getElem?_eq_getElem (by omega)⟩
    obtain ⟨g, rfl, hg1, hg2, q0, q1, q2⟩ := m2.cells hx
    have hsx : s[t]? = some x.it := by rw [← m5]; exact its_get hx
    have hhb : heldB s (t : Int) = x.held := by unfold heldB; rw [Int.toNat_natCast, hsx]; rfl
    obtain ⟨xb, hxb⟩ : ∃ b, x.held = b := ⟨_, rfl⟩
    rw [hxb] at q2 hhb
    have p0 := m1.cell 0 (v := .slice (some ⟨g, 0, none⟩) L c) rfl
    have e1 := HD.out.1.cell 1 (v := .int .i64 (t : Int)) rfl
    have t0 : (0 : Int) ≤ (t : Int) := by omega
    have t1 : (t : Int) < (L : Int) := by omega
    have HX := Lib.hid (And.intro hn0 hhb); clear m1 m2 m3 m5 hll hx hsx hhb hn0 hL htl hxb q0 q1
    by_cases h3 : dd = 3
    · subst h3
      cases xb with
      | false =>
        have HR := Lib.hid (holdE_state (d := ⟨3, (t : Int), b, n⟩) HX.out.1 ⟨rfl, HX.out.2⟩)
        go_wp2_with fail
        go_quiet (fail)
        go_wp2_with fail
        go_ret
        exact ⟨by rw [HR.out]; rfl, below_drewN HD.out.2.1 _⟩
      | true =>
        have HR := Lib.hid (holdE_ok (d := ⟨3, (t : Int), b, n⟩) HX.out.1 (by rw [HX.out.2]; simp))
        go_wp2_with fail
        go_quiet (fail)
        go_wp2_with fail
        go_ret
        exact ⟨by rw [HR.out]; rfl, below_drewN HD.out.2.1 _⟩
    · have HR := Lib.hid (holdE_ok (d := ⟨dd, (t : Int), b, n⟩) HX.out.1 (fun h => h3 h.1))
      have d3 : (dd == 3) = false := by simpa using h3
      clear h3
      go_wp2_with fail
      go_quiet (fail)
      go_wp2_with fail
      go_ret
      exact ⟨by rw [HR.out]; rfl, below_drewN HD.out.2.1 _⟩
  · have d1 : (namedE s [a] == 0) = false := by simpa using hn0
    obtain ⟨er, her⟩ : ∃ er, namedE s [a] = er := ⟨_, rfl⟩
    rw [her] at d1 ⊢
    have HER := Lib.hid (And.intro her hn0); clear her hn0
    go_wp2_with fail
    go_quiet (fail)
    go_wp2_with fail
    go_ret
    exact ⟨by rw [holdE_named HER.out.2, HER.out.1]; rfl, below_drewN HD.out.2.1 _⟩

end Go.Proofs.Ytpkccpegdpodoaa

/- Things that are gone: round by round. No program is named here. -/
namespace Go.Proofs.Ytpkccpegdpodoaa

def goneK (ks : List Int) (v : Int) (s : List It) : List It := s.mapIdx fun i x => if ks.contains (i : Int) = true then ⟨[], v, false⟩ else x
def clr (ls : List Int) (k : Int) : Int := if ls.contains k = true then -1 else k
def clrK (ls : List Int) (n : Nat) (s : List It) : List It := s.mapIdx fun j x => if j < n then clearL ls x else x
def clrH (ls : List Int) (i : Nat) (x : It) : It := { x with has := (x.has.take i).map (clr ls) ++ x.has.drop i }
def clrI (ls : List Int) (n i : Nat) (s : List It) : List It := (clrK ls n s).modify n (clrH ls i)

theorem goneK_nil (v : Int) (s : List It) : goneK [] v s = s := by
  apply List.ext_getElem?; intro i
  unfold goneK; rw [List.getElem?_mapIdx]
  cases s[i]? <;> simp
theorem goneK_length (ks : List Int) (v : Int) (s : List It) : (goneK ks v s).length = s.length := by simp [goneK]
theorem goneK_get (ks : List Int) (v : Int) (s : List It) (i : Nat) {x : It} (h : s[i]? = some x) : (goneK ks v s)[i]? = some (if ks.contains (i : Int) = true then ⟨[], v, false⟩ else x) := by
  unfold goneK; rw [List.getElem?_mapIdx, h]; rfl
theorem goneK_snoc (ks : List Int) (v : Int) (s : List It) (m : Nat) : goneK (ks ++ [(m : Int)]) v s = (goneK ks v s).modify m (fun _ => ⟨[], v, false⟩) := by
  apply List.ext_getElem?; intro i
  rw [get_modify]
  cases hs : s[i]? with
  | none =>
    have hi : s.length ≤ i := by rw [List.getElem?_eq_none_iff] at hs; exact hs
    rw [List.getElem?_eq_none (by rw [goneK_length]; exact hi), List.getElem?_eq_none (by rw [goneK_length]; exact hi)]
    simp
  | some x =>
    rw [goneK_get _ v s i hs, goneK_get _ v s i hs]
    by_cases e : m = i
    · subst e
      rw [if_pos rfl]; simp
    · rw [if_neg e]
      have : ((ks ++ [(m : Int)]).contains (i : Int)) = ks.contains (i : Int) := by
        rw [Bool.eq_iff_iff, List.contains_iff_mem, List.contains_iff_mem, List.mem_append]
        constructor
        · rintro (h | h)
          · exact h
          · simp only [List.mem_singleton] at h; omega
        · exact .inl
      rw [this]
theorem goneI_eq (ls : List Int) (v : Int) (s : List It) : goneI ls v s = (goneK ls v s).map (clearL ls) := rfl

theorem clrK_length (ls : List Int) (n : Nat) (s : List It) : (clrK ls n s).length = s.length := by simp [clrK]
theorem clrI_length (ls : List Int) (n i : Nat) (s : List It) : (clrI ls n i s).length = s.length := by unfold clrI; simp [clrK]
theorem clrK_get (ls : List Int) (n : Nat) (s : List It) (j : Nat) {x : It} (h : s[j]? = some x) : (clrK ls n s)[j]? = some (if j < n then clearL ls x else x) := by
  unfold clrK; rw [List.getElem?_mapIdx, h]; rfl
theorem clrK_zero (ls : List Int) (s : List It) : clrK ls 0 s = s := by
  apply List.ext_getElem?; intro i
  unfold clrK; rw [List.getElem?_mapIdx]
  cases s[i]? <;> simp
theorem clrK_all (ls : List Int) (s : List It) : clrK ls s.length s = s.map (clearL ls) := by
  apply List.ext_getElem?; intro i
  unfold clrK
  rw [List.getElem?_mapIdx, List.getElem?_map]
  cases hs : s[i]? with
  | none => rfl
  | some x => simp [(List.getElem?_eq_some_iff.1 hs).1]
theorem clrI_zero (ls : List Int) (n : Nat) (s : List It) : clrI ls n 0 s = clrK ls n s := by
  unfold clrI
  apply List.ext_getElem?; intro j
  rw [get_modify]
  split
  · cases (clrK ls n s)[j]? <;> simp [clrH]
  · rfl
theorem clrI_get (ls : List Int) (n i : Nat) (s : List It) {x : It} (h : s[n]? = some x) : (clrI ls n i s)[n]? = some (clrH ls i x) := by
  unfold clrI
  rw [get_modify, if_pos rfl, clrK_get ls n s n h, if_neg (by omega)]; rfl
theorem clrI_step (ls : List Int) (n i : Nat) (s : List It) {x : It} {k : Int} (h : s[n]? = some x) (hk : x.has[i]? = some k) : clrI ls n (i + 1) s = if ls.contains k = true then (clrI ls n i s).modify n (It.sethas i (-1)) else clrI ls n i s := by
  have hi : i < x.has.length := (List.getElem?_eq_some_iff.1 hk).1
  have hH : clrH ls (i + 1) x = if ls.contains k = true then It.sethas i (-1) (clrH ls i x) else clrH ls i x := by
    have hd : x.has.drop i = k :: x.has.drop (i + 1) := by
      rw [List.drop_eq_getElem_cons hi]
      rw [List.getElem?_eq_getElem hi] at hk; injection hk with hk; rw [hk]
    have ht : x.has.take (i + 1) = x.has.take i ++ [k] := by rw [List.take_add_one, hk]; rfl
    have hl : ((x.has.take i).map (clr ls)).length = i := by rw [List.length_map, List.length_take]; omega
    unfold clrH It.sethas
    by_cases hc : ls.contains k = true
    · rw [if_pos hc]
      simp only [ht, hd, List.map_append, List.map_cons, List.map_nil]
      rw [List.set_append_right _ _ (by omega), hl, Nat.sub_self, List.set_cons_zero]
      have : clr ls k = -1 := if_pos hc
      simp [this]
    · rw [if_neg hc]
      simp only [ht, hd, List.map_append, List.map_cons, List.map_nil]
      have : clr ls k = k := if_neg hc
      simp [this]
  apply List.ext_getElem?; intro j
  by_cases e : n = j
  · subst e
    rw [clrI_get ls n (i + 1) s h, hH]
    split
    · rw [get_modify, if_pos rfl, clrI_get ls n i s h]; rfl
    · rw [clrI_get ls n i s h]
  · have hne : ∀ q, (clrI ls n q s)[j]? = (clrK ls n s)[j]? := fun q => by unfold clrI; rw [get_modify, if_neg e]
    rw [hne]
    split
    · rw [get_modify, if_neg e, hne]
    · rw [hne]
theorem clrI_done (ls : List Int) (n : Nat) (s : List It) {x : It} (h : s[n]? = some x) : clrI ls n x.has.length s = clrK ls (n + 1) s := by
  apply List.ext_getElem?; intro j
  by_cases e : n = j
  · subst e
    rw [clrI_get ls n _ s h, clrK_get ls (n + 1) s n h, if_pos (by omega)]
    unfold clrH clearL
    rw [List.take_length, List.drop_length, List.append_nil]; rfl
  · unfold clrI
    rw [get_modify, if_neg e]
    cases hs : s[j]? with
    | none =>
      have hj : s.length ≤ j := by rw [List.getElem?_eq_none_iff] at hs; exact hs
      rw [List.getElem?_eq_none (by rw [clrK_length]; exact hj), List.getElem?_eq_none (by rw [clrK_length]; exact hj)]
    | some y =>
      rw [clrK_get ls n s j hs, clrK_get ls (n + 1) s j hs]
      have e1 : (j < n + 1) ↔ (j < n) := by omega
      simp only [e1]

/-- those that stand so made to stand otherwise, by their numbers -/
def setAll (ks : List Int) (v : Int) (s : List It) : List It := ks.foldl (fun s k => s.modify k.toNat (It.setst v)) s
theorem setAll_snoc (l : List Int) (k : Nat) (x : Int) (v : Int) (s : List It) (h : l[k]? = some x) : setAll (l.take (k + 1)) v s = (setAll (l.take k) v s).modify x.toNat (It.setst v) := by
  unfold setAll
  rw [List.take_add_one, h]; simp
theorem setAll_length (ks : List Int) (v : Int) (s : List It) : (setAll ks v s).length = s.length := by
  unfold setAll
  induction ks generalizing s with
  | nil => rfl
  | cons a l ih => rw [List.foldl_cons, ih]; simp
theorem setAll_get (ks : List Int) (v : Int) : ∀ (s : List It) (i : Nat) (x : It), s[i]? = some x → (∀ k ∈ ks, 0 ≤ k) → (setAll ks v s)[i]? = some (if ks.contains (i : Int) = true then x.setst v else x) := by
  unfold setAll
  induction ks with
  | nil => intro s i x h _; simpa using h
  | cons a l ih =>
    intro s i x h hk
    rw [List.foldl_cons]
    have ha := hk a (by simp)
    by_cases e : a.toNat = i
    · have h2 : (s.modify a.toNat (It.setst v))[i]? = some (x.setst v) := by rw [get_modify, if_pos e, h]; rfl
      rw [ih _ i _ h2 (fun k hk' => hk k (by simp [hk']))]
      have ha2 : a = (i : Int) := by omega
      have hc : (a :: l).contains (i : Int) = true := by rw [List.contains_iff_mem, ha2]; simp
      rw [if_pos hc]
      split <;> rfl
    · have h2 : (s.modify a.toNat (It.setst v))[i]? = some x := by rw [get_modify, if_neg e]; exact h
      rw [ih _ i _ h2 (fun k hk' => hk k (by simp [hk']))]
      have hc : (a :: l).contains (i : Int) = l.contains (i : Int) := by
        rw [Bool.eq_iff_iff, List.contains_iff_mem, List.contains_iff_mem, List.mem_cons]
        constructor
        · rintro (h | h)
          · omega
          · exact h
        · exact .inr
      rw [hc]
theorem setAll_whiten (s : List It) : setAll (are s 2) 0 s = s.map whiten := by
  apply List.ext_getElem?; intro i
  rw [List.getElem?_map]
  cases hs : s[i]? with
  | none =>
    have hi : s.length ≤ i := by rw [List.getElem?_eq_none_iff] at hs; exact hs
    rw [List.getElem?_eq_none (by rw [setAll_length]; exact hi)]; rfl
  | some x =>
    rw [setAll_get _ 0 s i x hs (fun k hk => by
      unfold are at hk
      obtain ⟨n, rfl, -⟩ := (mem_rising _ _).1 hk
      omega)]
    simp only [Option.map_some]
    congr 1
    unfold whiten
    by_cases h2 : x.st = 2
    · rw [if_pos ((are_contains s 2 i).2 (by rw [stAt_get hs, h2])), if_pos h2]
    · rw [if_neg (by rw [are_contains, stAt_get hs]; intro e; injection e with e; exact h2 e), if_neg h2]

end Go.Proofs.Ytpkccpegdpodoaa

/- R.Has at ints; R.Model: gone. -/
namespace Go.Proofs.Ytpkccpegdpodoaa
open Go.RowKit

attribute [local go_sem ↓] Go.wp_at_zero Go.wp_at_succ

theorem contains_take {l : List Int} {x : Int} {k : Nat} {y : Int} (h : l[k]? = some y) : (l.take (k + 1)).contains x = ((l.take k).contains x || x == y) := by
  rw [List.take_add_one, h, Option.toList_some, Bool.eq_iff_iff, List.contains_iff_mem, Bool.or_eq_true, List.contains_iff_mem]
  simp

set_option maxHeartbeats 800000 in
set_option maxRecDepth 100000 in
theorem rhas_any (A : Option Addr) (c B n : Nat) (l : List Int) (x : Int) (w : World) (hn : l.length = n) (h : At w B A l) (hl : n ≤ 9223372036854775807) :
    Calls Try.prog 109 #[.slice A n c, .int .i64 x] w fun e w' => e = .returned (.bool (l.contains x)) ∧ w = w' := by
  have H := Lib.hid (And.intro h hn); clear h hn
  obtain ⟨r, hr⟩ : ∃ r, l.contains x = r := ⟨_, rfl⟩
  rw [hr]
  have HR := Lib.hid hr; clear hr
  go_enter Try.func109, Try.ntmps109
  go_wp2
  go_loopg [9] n (fun gk i wr => ∃ k : Nat, k ≤ n ∧ gk = n - k ∧ i = .int .i64 k ∧ Hid ((l.take k).contains x = false) ∧ w = wr)
  case atStart => exact ⟨0, Nat.zero_le _, rfl, rfl, by simp [Hid], rfl⟩
  case round =>
    obtain ⟨k, hk, rfl, rfl, hno, rfl⟩ := hrel
    by_cases hlt : k < n
    · obtain ⟨b, o, y, rfl, hb, hy, hyi, h0⟩ := H.out.1.int_ (k := k) (by have := H.out.2; omega)
      have b0 : (0 : Int) ≤ (k : Int) := by omega
      have b1 : (k : Int) < (n : Int) := by omega
      have hct := contains_take (x := x) hy
      rw [hno.out] at hct
      by_cases hxy : x = y
      · have hxy1 : (x == y) = true := by simpa using hxy
        have hrt : r = true := by rw [← HR.out]; exact List.contains_iff_mem.2 (hxy ▸ List.mem_of_getElem? hy)
        subst hrt
        clear hxy hy hct
        go_wp2
        go_ret
        exact ⟨rfl, rfl⟩
      · have hxy2 : (x == y) = false := by simpa using hxy
        rw [hxy2] at hct
        have HC := Lib.hid hct; clear hxy hy hct
        go_wp2
        go_roundg (n - (k + 1))
        case measure => omega
        case rel => exact ⟨k + 1, by omega, rfl, by go_num, HC.out, rfl⟩
    · have hrf : r = false := by
        rw [← HR.out]
        have h1 := hno.out
        rw [List.take_of_length_le (by have := H.out.2; omega)] at h1
        exact h1
      subst hrf
      go_wp2
      go_ret
      exact ⟨rfl, rfl⟩

set_option maxHeartbeats 3200000 in
set_option maxRecDepth 100000 in
theorem gone_any (w : World) (base lb p q lc : Nat) (F : Nat → Prop) (nu kind v : Int) (mk : Bool) (s : List It) (LA : Option Addr) (ls : List Int) (h : Mdl w base F p nu kind mk s) (hl : Own w lb 3 LA lc ls) (hlF : ∀ g, rowOf LA = some g → ¬ F g)
    (hin : ∀ x ∈ ls, ∃ n : Nat, x = (n : Int) ∧ n < s.length) (hq : ls.length = q) (hs : s.length ≤ 100) (hx10 : ∀ x ∈ s, x.has.length ≤ 10) (hv : I64 v) :
    Calls Try.prog 134 #[.pointer (some ⟨p, 0, none⟩), .slice LA q lc, .int .i64 v] w fun e w' => e = .returned (.int .i64 q) ∧ Mdl w' base F p nu kind mk (goneI ls v s) ∧ Touch F w w' := by
  obtain ⟨A, c, hA⟩ := h
  have hcap := hl.le_cap
  have hq9 : q ≤ 9223372036854775807 := by have := hcap.2; unfold maxLen at this; omega
  have hok : ∀ x ∈ ls, Flat.ok x := fun x hx => by obtain ⟨n, rfl, hn⟩ := hin x hx; show I64 _; unfold I64; omega
  have HV := Lib.hid hv
  have H := Lib.hid (And.intro hA (And.intro hl (And.intro hlF (And.intro hin (And.intro hq (And.intro hx10 hok)))))); clear hA hl hlF hin hq hx10 hv hcap hok
  go_enter Try.func134, Try.ntmps134
  go_wp2_with fail
  go_loopg [14] q (fun gk iv wr => ∃ (k : Nat), k ≤ q ∧ gk = q - k ∧ iv = .int .i64 k ∧ Hid (MdlA wr base F p nu kind mk A c (goneK (ls.take k) v s) ∧ Own wr lb 3 LA lc ls) ∧ Touch F w wr)
  case atStart => exact ⟨0, Nat.zero_le _, rfl, rfl, ⟨by rw [List.take_zero, goneK_nil]; exact H.out.1, H.out.2.1⟩, Touch.refl _ _⟩
  case round =>
    obtain ⟨k, hk, rfl, rfl, hkeep, hT⟩ := hrel
    by_cases hlt : k < q
    · obtain ⟨z, hz⟩ : ∃ z, ls[k]? = some z := ⟨_, List.getElem?_eq_getElem (by have := H.out.2.2.2.2.1; omega)⟩
      obtain ⟨gl, rfl, hgl1, hgl2⟩ := hkeep.out.2.some_ (by have := H.out.2.2.2.2.1; omega)
      have z0 := hkeep.out.2.cell_int hz
      obtain ⟨n, rfl, hn⟩ := H.out.2.2.2.1 z (List.mem_of_getElem? hz)
      obtain ⟨l, m1, m2, m3, m4, m5⟩ := hkeep.out.1
      have hll : l.length = s.length := by rw [← its_length, m5, goneK_length]
      obtain ⟨L, hL⟩ : ∃ L, l.length = L := ⟨_, rfl⟩
      have m1' := m1
      rw [hL] at m1'
      obtain ⟨x, hx⟩ : ∃ x, l[n]? = some x := ⟨_, List.getElem?_eq_getElem (by omega)⟩
      obtain ⟨g, rfl, hg1, hg2, q0, q1, q2⟩ := m2.cells hx
      have p0 := m1'.cell 0 (v := .slice (some ⟨g, 0, none⟩) L c) rfl
      have y0 := m2.row.frozen (g := g) rfl (n * 3)
      have y1 := m2.row.frozen (g := g) rfl (n * 3 + 1)
      have y2 := m2.row.frozen (g := g) rfl (n * 3 + 2)
      have b0 : (0 : Int) ≤ (k : Int) := by omega
      have b1 : (k : Int) < (q : Int) := by omega
      have n0 : (0 : Int) ≤ (n : Int) := by omega
      have n1 : (n : Int) < (L : Int) := by omega
      have hne : p ≠ g := fun e => own_ne_ty m2.row m1 (by decide) (by rw [← e]; rfl)
      have hgF := m2.foot g rfl
      have hglg : gl ≠ g := fun e => own_own_ty m2.row hkeep.out.2 (by decide) g rfl (by rw [← e]; rfl)
      have hgone := m2.setGone hx (by decide) v HV.out
      have hits := its_set l n x ⟨none, 0, [], v, false⟩ (fun _ => ⟨[], v, false⟩) hx rfl
      rw [m5, ← goneK_snoc] at hits
      have htk : ls.take (k + 1) = ls.take k ++ [(n : Int)] := by rw [List.take_add_one, hz]; rfl
      rw [← htk] at hits
      have hbl := ((m1.far (p := ⟨g, n * 3, none⟩) hne (.slice none 0 0)).far (p := ⟨g, n * 3 + 1, none⟩) hne (.int .i64 v)).far (p := ⟨g, n * 3 + 2, none⟩) hne (.bool false)
      have hol := ((hkeep.out.2.setCell ⟨g, n * 3, none⟩ (.slice none 0 0) (fun e => hglg (by injection e))).setCell ⟨g, n * 3 + 1, none⟩ (.int .i64 v) (fun e => hglg (by injection e))).setCell ⟨g, n * 3 + 2, none⟩ (.bool false) (fun e => hglg (by injection e))
      have HX := Lib.hid (And.intro hgone (And.intro hits (And.intro hbl (And.intro hol m3)))); clear m1 m1' m2 m3 m5 hll hL hx hgone hits htk hbl hol hkeep hz
      go_wp2_with fail
      go_roundg (q - (k + 1))
      case measure => omega
      case rel => exact ⟨k + 1, by omega, rfl, by go_num, ⟨⟨_, by rw [List.length_set]; exact HX.out.2.2.1, HX.out.1, HX.out.2.2.2.2, m4, HX.out.2.1⟩, HX.out.2.2.2.1⟩, ((hT.setCell hgF _).setCell hgF _).setCell hgF _⟩
    · obtain rfl : q = k := by omega
      have hf := hkeep.out
      rw [List.take_of_length_le (by have := H.out.2.2.2.2.1; omega)] at hf
      obtain ⟨s1, hs1⟩ : ∃ s1, goneK ls v s = s1 := ⟨_, rfl⟩
      rw [hs1] at hf
      have hs1l : s1.length = s.length := by rw [← hs1, goneK_length]
      have hs110 : ∀ x ∈ s1, x.has.length ≤ 10 := by
        intro x hx
        obtain ⟨i, hi⟩ := List.mem_iff_getElem?.1 hx
        have hil : i < s.length := by rw [← hs1l]; exact (List.getElem?_eq_some_iff.1 hi).1
        have h1 := goneK_get ls v s i (List.getElem?_eq_getElem hil)
        rw [hs1, hi] at h1
        injection h1 with h1
        rw [h1]
        split
        · simp
        · exact H.out.2.2.2.2.2.1 _ (List.getElem_mem hil)
      have hgI : goneI ls v s = s1.map (clearL ls) := by rw [goneI_eq, hs1]
      obtain ⟨N, hN⟩ : ∃ N, s1.length = N := ⟨_, rfl⟩
      have hN100 : N ≤ 100 := by omega
      obtain ⟨l, m1, m2, m3, m4, m5⟩ := hf.1
      have hlN : l.length = N := by rw [← its_length, m5]; exact hN
      have p0 := m1.cell 0 (v := .slice A l.length c) rfl
      rw [hlN] at p0
      have H2 := Lib.hid (And.intro hf (And.intro hs110 (And.intro hgI (And.intro hN hs1)))); clear hf hs1 hs1l hs110 hgI hN m1 m2 m3 m5 hlN hkeep
      go_wp2_with fail
      clear p0
      go_loopg [32] N (fun gk iv wq => ∃ (n : Nat), n ≤ N ∧ gk = N - n ∧ iv = .int .i64 n ∧ Hid (MdlA wq base F p nu kind mk A c (clrK ls n s1) ∧ Own wq lb 3 LA lc ls) ∧ Touch F w wq)
      case atStart => exact ⟨0, Nat.zero_le _, rfl, rfl, ⟨by rw [clrK_zero]; exact H2.out.1.1, H2.out.1.2⟩, hT⟩
      case round =>
        obtain ⟨n, hn, rfl, rfl, hkeep, hT2⟩ := hrel
        by_cases hltn : n < N
        · obtain ⟨x, hsx⟩ : ∃ x, s1[n]? = some x := ⟨_, List.getElem?_eq_getElem (by have := H2.out.2.2.2.1; omega)⟩
          obtain ⟨xh, xs, xb⟩ := x
          obtain ⟨l, m1, m2, m3, m4, m5⟩ := hkeep.out.1
          have hlN : l.length = N := by rw [← its_length, m5, clrK_length, H2.out.2.2.2.1]
          obtain ⟨y, hy⟩ : ∃ y, l[n]? = some y := ⟨_, List.getElem?_eq_getElem (by omega)⟩
          obtain ⟨g, rfl, hg1, hg2, q0, q1, q2⟩ := m2.cells hy
          have hyx : y.has = xh := by
            have h1 := clrK_get ls n s1 n hsx
            rw [if_neg (by omega), ← m5, its_get hy] at h1
            injection h1 with h1
            exact congrArg It.has h1
          have hx10 : xh.length ≤ 10 := H2.out.2.1 _ (List.mem_of_getElem? hsx)
          obtain ⟨xn, hxn⟩ : ∃ n, xh.length = n := ⟨_, rfl⟩
          rw [hyx, hxn] at q0
          rw [hxn] at hx10
          have p0 := m1.cell 0 (v := .slice (some ⟨g, 0, none⟩) l.length c) rfl
          rw [hlN] at p0
          have n0 : (0 : Int) ≤ (n : Int) := by omega
          have n1 : (n : Int) < (N : Int) := by omega
          have hM0 : MdlL wr base F p nu kind mk (some ⟨g, 0, none⟩) c (clrI ls n 0 s1) l := ⟨m1, m2, m3, m4, by rw [clrI_zero]; exact m5⟩
          obtain ⟨YA, yc, yh, ys, yb⟩ := y
          simp only at hyx q0 q1 q2
          subst hyx
          have HX := Lib.hid (And.intro hM0 (And.intro hy (And.intro hsx (And.intro hxn hkeep.out.2)))); clear m1 m2 m3 m5 hlN hM0 hy hsx hxn hkeep
          go_wp2_with fail
          clear p0 q0 q1 q2
          go_loopg [44] xn (fun gk jv wj => ∃ (j : Nat), j ≤ xn ∧ gk = xn - j ∧ jv = .int .i64 j ∧ Hid ((∃ l', MdlL wj base F p nu kind mk (some ⟨g, 0, none⟩) c (clrI ls n j s1) l' ∧ ∃ x', l'[n]? = some x' ∧ x'.A = YA ∧ x'.c = yc) ∧ Own wj lb 3 LA lc ls) ∧ Touch F w wj)
          case atStart => exact ⟨0, Nat.zero_le _, rfl, rfl, ⟨⟨l, HX.out.1, _, HX.out.2.1, rfl, rfl⟩, HX.out.2.2.2.2⟩, hT2⟩
          case round =>
            obtain ⟨j, hj, rfl, rfl, hkj, hT3⟩ := hrel
            obtain ⟨⟨l', ⟨k1, k2, k3, k4, k5⟩, x', hx', hxA, hxc⟩, ko⟩ := hkj.out
            have hl' : l'.length = N := by rw [← its_length, k5, clrI_length]; exact H2.out.2.2.2.1
            have hxh : x'.has = (clrH ls j ⟨yh, xs, xb⟩).has := by
              have h1 := clrI_get ls n j s1 HX.out.2.2.1
              rw [← k5, its_get hx'] at h1
              injection h1 with h1
              exact congrArg It.has h1
            have hxlen : x'.has.length = xn := by
              rw [hxh]; unfold clrH
              simp only [List.length_append, List.length_map, List.length_take, List.length_drop]
              have := HX.out.2.2.2.1; omega
            by_cases hltj : j < xn
            · obtain ⟨z, hz⟩ : ∃ z, yh[j]? = some z := ⟨_, List.getElem?_eq_getElem (by have := HX.out.2.2.2.1; omega)⟩
              have hxz : x'.has[j]? = some z := by
                rw [hxh]; unfold clrH
                have hl2 : ((yh.take j).map (clr ls)).length = j := by rw [List.length_map, List.length_take]; have := HX.out.2.2.2.1; omega
                simp only
                rw [List.getElem?_append_right (by omega), hl2, Nat.sub_self, List.getElem?_drop, Nat.add_zero]; exact hz
              obtain ⟨g', hgg, -, -, q0, -, -⟩ := k2.cells hx'
              injection hgg with hgg; injection hgg with hgg; subst hgg
              rw [hxA, hxc, hxlen] at q0
              have hsub := k2.sub n x' hx'
              have hown := hsub.1
              rw [hxA, hxc] at hown
              obtain ⟨gx, rfl, hgx1, hgx2⟩ := hown.some_ (by omega)
              have z0 := hown.cell_int hxz
              have zf := hown.frozen (g := gx) rfl j
              have p0 := k1.cell 0 (v := .slice (some ⟨g, 0, none⟩) l'.length c) rfl
              rw [hl'] at p0
              have j0 : (0 : Int) ≤ (j : Int) := by omega
              have j1 : (j : Int) < (xn : Int) := by omega
              have hgxF : F gx := hsub.2.1 gx (by rw [hxA]; rfl)
              have hst := clrI_step ls n j s1 HX.out.2.2.1 hz
              have hset := k2.setHas hx' (by decide) hxA (j := j) (by omega) (-1) (by unfold I64; omega)
              have hits := its_set l' n x' { x' with has := x'.has.set j (-1) } (It.sethas j (-1)) hx' rfl
              rw [k5] at hits
              have hne : p ≠ gx := fun e => own_ne_ty hown k1 (by decide) (by rw [← e]; rfl)
              have hol := ko.setCell ⟨gx, j, none⟩ (.int .i64 (-1)) (fun e => H.out.2.2.1 gx e hgxF)
              have hbl := k1.far (p := ⟨gx, j, none⟩) hne (.int .i64 (-1))
              have hxn2 : (l'.set n { x' with has := x'.has.set j (-1) })[n]? = some { x' with has := x'.has.set j (-1) } := by rw [List.getElem?_set_self (by omega)]
              have hlh := rhas_any LA lc wr.heap.size q ls z wr H.out.2.2.2.2.1 (ko.at_ H.out.2.2.2.2.2.2) hq9
              obtain ⟨r, hr⟩ : ∃ r, ls.contains z = r := ⟨_, rfl⟩
              rw [hr] at hst hlh
              have HJ := Lib.hid (And.intro hlh (And.intro hst (And.intro hset (And.intro hits (And.intro hbl (And.intro hol (And.intro hxn2 (And.intro k3 (And.intro hkj.out (And.intro hxA hxc)))))))))); clear hlh hst hset hits hbl hol hxn2 k1 k2 k3 k5 hkj hxA hxc ko hx' hxh hxlen hxz hz hsub hown hr hl'
              cases r with
              | false =>
                go_wp2_with fail
                refine HJ.out.1.mono ?_
                rintro e w5 ⟨rfl, rfl⟩
                go_wp2_with fail
                go_roundg (xn - (j + 1))
                case measure => omega
                case rel => exact ⟨j + 1, by omega, rfl, by go_num, by have h1 := HJ.out.2.2.2.2.2.2.2.2.1; have h2 := HJ.out.2.1; rw [if_neg (by simp)] at h2; unfold Hid; rw [h2]; exact h1, hT3⟩
              | true =>
                go_wp2_with fail
                refine HJ.out.1.mono ?_
                rintro e w5 ⟨rfl, rfl⟩
                go_wp2_with fail
                go_roundg (xn - (j + 1))
                case measure => omega
                case rel => exact ⟨j + 1, by omega, rfl, by go_num, by have h2 := HJ.out.2.1; rw [if_pos trivial] at h2; unfold Hid; rw [h2]; exact ⟨⟨_, ⟨by rw [List.length_set]; exact HJ.out.2.2.2.2.1, HJ.out.2.2.1, HJ.out.2.2.2.2.2.2.2.1, k4, HJ.out.2.2.2.1⟩, _, HJ.out.2.2.2.2.2.2.1, HJ.out.2.2.2.2.2.2.2.2.2.1, HJ.out.2.2.2.2.2.2.2.2.2.2⟩, HJ.out.2.2.2.2.2.1⟩, hT3.setCell hgxF _⟩
            · obtain rfl : xn = j := by omega
              have hdone := clrI_done ls n s1 HX.out.2.2.1
              simp only [HX.out.2.2.2.1] at hdone
              rw [hdone] at k5
              have HE := Lib.hid (And.intro (show MdlA wr base F p nu kind mk (some ⟨g, 0, none⟩) c (clrK ls (n + 1) s1) from ⟨l', k1, k2, k3, k4, k5⟩) ko); clear k1 k2 k3 k5 ko hx' hxA hxc hxh hxlen hl' hdone hkj
              go_wp2_with fail
              go_roundg (N - (n + 1))
              case measure => omega
              case rel => exact ⟨n + 1, by omega, rfl, by go_num, ⟨HE.out.1, HE.out.2⟩, hT3⟩
        · obtain rfl : N = n := by omega
          have hf := hkeep.out.1
          have hall : clrK ls N s1 = goneI ls v s := by rw [H2.out.2.2.1, ← clrK_all, H2.out.2.2.2.1]
          rw [hall] at hf
          have HF := Lib.hid hf; clear hf hall hkeep
          go_wp2_with fail
          go_ret
          exact ⟨rfl, ⟨A, c, HF.out⟩, hT2⟩

end Go.Proofs.Ytpkccpegdpodoaa

/- Two generations, the plain law: who stays, what goes, what is remembered. No program is named here. -/
namespace Go.Proofs.Ytpkccpegdpodoaa

/-- a young one that a collection of the young ones keeps -/
inductive Yg (s : List It) : Nat → Prop
  | held {k : Nat} : stAt s k = some 0 → heldAt s k → Yg s k
  | old {i k : Nat} : stAt s i = some 1 → edge s i k → stAt s k = some 0 → Yg s k
  | step {i k : Nat} : Yg s i → edge s i k → stAt s k = some 0 → Yg s k
theorem Yg.young {s : List It} {k : Nat} (h : Yg s k) : stAt s k = some 0 := by cases h <;> assumption

structure GInv (s : List It) : Prop where
  small : s.length ≤ 100
  long : ∀ x ∈ s, x.has.length ≤ 10
  refs : ∀ x ∈ s, ∀ k ∈ x.has, k = -1 ∨ ∃ n : Nat, k = (n : Int) ∧ n < s.length ∧ stAt s n ≠ some 2
  sts : ∀ x ∈ s, x.st = 0 ∨ x.st = 1 ∨ x.st = 2
  gone : ∀ x ∈ s, x.st = 2 → x.has = [] ∧ x.held = false
theorem GInv.start : GInv [] := ⟨by simp, by simp, by simp, by simp, by simp⟩

section
variable {s : List It}
theorem GInv.right (h : GInv s) : Right (gHas s) := by
  intro l hl x hx
  unfold gHas at hl
  obtain ⟨y, hy, rfl⟩ := List.mem_map.1 hl
  have hm := List.mem_filter.1 hx
  rcases h.refs y hy x hm.1 with h1 | ⟨n, h1, h2, -⟩
  · subst h1; simp at hm
  · exact ⟨n, h1, by rw [gHas_length]; exact h2⟩
theorem GInv.rightL (_h : GInv s) : RightL (gHas s).length (gRoots s) := by
  intro x hx
  obtain ⟨n, rfl, y, h1, -⟩ := mem_gRoots.1 hx
  exact ⟨n, rfl, by rw [gHas_length]; exact (List.getElem?_eq_some_iff.1 h1).1⟩
theorem GInv.edge_lt (h : GInv s) {i k : Nat} (he : edge s i k) : k < s.length ∧ stAt s k ≠ some 2 := by
  obtain ⟨x, hx, hk⟩ := he
  rcases h.refs x (List.mem_of_getElem? hx) _ hk with h1 | ⟨n, h1, h2, h3⟩
  · omega
  · obtain rfl : n = k := by omega
    exact ⟨h2, h3⟩
theorem GInv.held_alive (h : GInv s) {i : Nat} (he : heldAt s i) : i < s.length ∧ stAt s i ≠ some 2 := by
  obtain ⟨x, hx, hk⟩ := he
  refine ⟨(List.getElem?_eq_some_iff.1 hx).1, fun e => ?_⟩
  rw [stAt_get hx] at e
  injection e with e
  have := (h.gone x (List.mem_of_getElem? hx) e).2
  rw [hk] at this; cases this
theorem GInv.need (h : GInv s) {n : Nat} (hn : RT (gHas s) (gRoots s) [] n) : n < s.length ∧ stAt s n ≠ some 2 := by
  cases hn with
  | root h1 =>
    obtain ⟨m, e, hm⟩ := mem_gRoots.1 h1
    obtain rfl : m = _ := (Int.ofNat.inj e).symm
    exact h.held_alive hm
  | edge hr h1 h2 => exact h.edge_lt (gHas_edge h1 h2)
  | pair _ h1 => simp at h1
theorem GInv.st_cases (h : GInv s) {i : Nat} (hi : i < s.length) : stAt s i = some 0 ∨ stAt s i = some 1 ∨ stAt s i = some 2 := by
  have hx : s[i]? = some s[i] := List.getElem?_eq_getElem hi
  rw [stAt_get hx]
  rcases h.sts _ (List.mem_of_getElem? hx) with h | h | h <;> rw [h] <;> simp
end

/-! ### a collection -/
def stayX (ag : List Int) (st : List Bool) (n : Nat) (x : It) : It := if (ag.contains x.st && st.getD n false) = true then x.setst 1 else x
def stayL (ag : List Int) (st : List Bool) (s : List It) : List It := s.mapIdx (stayX ag st)
def outB (ag : List Int) (st : List Bool) (s : List It) : List Bool := s.mapIdx fun n x => ag.contains x.st && !st.getD n false
def outL (ag : List Int) (st : List Bool) (s : List It) : List Int := rising (outB ag st s)
def collectI (ag : List Int) (st : List Bool) (s : List It) : List It := goneI (outL ag st s) 2 (stayL ag st s)
theorem stayL_length (ag : List Int) (st : List Bool) (s : List It) : (stayL ag st s).length = s.length := by simp [stayL]
theorem outB_length (ag : List Int) (st : List Bool) (s : List It) : (outB ag st s).length = s.length := by simp [outB]
theorem stayL_get (ag : List Int) (st : List Bool) (s : List It) (i : Nat) {x : It} (h : s[i]? = some x) : (stayL ag st s)[i]? = some (stayX ag st i x) := by
  unfold stayL; rw [List.getElem?_mapIdx, h]; rfl
theorem outB_get (ag : List Int) (st : List Bool) (s : List It) (i : Nat) {x : It} (h : s[i]? = some x) : (outB ag st s)[i]? = some (ag.contains x.st && !st.getD i false) := by
  unfold outB; rw [List.getElem?_mapIdx, h]; rfl
theorem mem_outL (ag : List Int) (st : List Bool) (s : List It) (i : Nat) {x : It} (h : s[i]? = some x) : (outL ag st s).contains (i : Int) = (ag.contains x.st && !st.getD i false) := by
  rw [Bool.eq_iff_iff, List.contains_iff_mem]
  unfold outL
  rw [mem_rising]
  constructor
  · rintro ⟨n, e, h1⟩
    obtain rfl : n = i := by omega
    rw [outB_get ag st s n h] at h1
    injection h1
  · intro h1
    exact ⟨i, rfl, by rw [outB_get ag st s i h, h1]⟩
theorem outL_in (ag : List Int) (st : List Bool) (s : List It) : ∀ x ∈ outL ag st s, ∃ n : Nat, x = (n : Int) ∧ n < s.length := by
  intro x hx
  unfold outL at hx
  obtain ⟨n, rfl, h⟩ := (mem_rising _ _).1 hx
  have := (List.getElem?_eq_some_iff.1 h).1
  rw [outB_length] at this
  exact ⟨n, rfl, this⟩
theorem goneI_lengthG (ls : List Int) (v : Int) (s : List It) : (goneI ls v s).length = s.length := by simp [goneI]
theorem collectI_length (ag : List Int) (st : List Bool) (s : List It) : (collectI ag st s).length = s.length := by
  unfold collectI; rw [goneI_lengthG, stayL_length]
/-- what a thing comes to -/
def endX (ag : List Int) (st : List Bool) (ls : List Int) (i : Nat) (x : It) : It :=
  if ag.contains x.st = true then (if st.getD i false = true then clearL ls (x.setst 1) else ⟨[], 2, false⟩) else clearL ls x
theorem collectI_get (ag : List Int) (st : List Bool) (s : List It) (i : Nat) {x : It} (h : s[i]? = some x) : (collectI ag st s)[i]? = some (endX ag st (outL ag st s) i x) := by
  unfold collectI
  rw [goneI_eq, List.getElem?_map, goneK_get _ 2 _ i (stayL_get ag st s i h), mem_outL ag st s i h]
  unfold stayX endX
  cases ag.contains x.st <;> cases st.getD i false <;> simp [clearL]
theorem collectI_back (ag : List Int) (st : List Bool) (s : List It) {x' : It} (h : x' ∈ collectI ag st s) : ∃ i x, s[i]? = some x ∧ (collectI ag st s)[i]? = some x' ∧ x' = endX ag st (outL ag st s) i x := by
  obtain ⟨i, hi⟩ := List.mem_iff_getElem?.1 h
  have hlt : i < s.length := by rw [← collectI_length ag st s]; exact (List.getElem?_eq_some_iff.1 hi).1
  have hx : s[i]? = some s[i] := List.getElem?_eq_getElem hlt
  refine ⟨i, _, hx, hi, ?_⟩
  rw [collectI_get ag st s i hx] at hi
  injection hi with hi; exact hi.symm
theorem GInv.collect {s : List It} (h : GInv s) (ag : List Int) (st : List Bool) : GInv (collectI ag st s) := by
  have hhas : ∀ (i : Nat) (x : It), (endX ag st (outL ag st s) i x).has = [] ∨ (endX ag st (outL ag st s) i x).has = (clearL (outL ag st s) x).has := by
    intro i x; unfold endX clearL It.setst
    split
    · split
      · exact .inr rfl
      · exact .inl rfl
    · exact .inr rfl
  refine ⟨by rw [collectI_length]; exact h.small, fun x' hx' => ?_, fun x' hx' k hk => ?_, fun x' hx' => ?_, fun x' hx' h2 => ?_⟩
  · obtain ⟨i, x, hx, -, rfl⟩ := collectI_back ag st s hx'
    rcases hhas i x with e | e
    · rw [e]; simp
    · rw [e]; unfold clearL; simpa using h.long x (List.mem_of_getElem? hx)
  · obtain ⟨i, x, hx, -, rfl⟩ := collectI_back ag st s hx'
    rcases hhas i x with e | e
    · rw [e] at hk; simp at hk
    · rw [e] at hk
      unfold clearL at hk
      obtain ⟨q, hq, rfl⟩ := List.mem_map.1 hk
      by_cases hc : (outL ag st s).contains q = true
      · rw [if_pos hc]; exact .inl rfl
      · rw [if_neg hc]
        rcases h.refs x (List.mem_of_getElem? hx) q hq with e | ⟨n, rfl, e2, e3⟩
        · exact .inl e
        · refine .inr ⟨n, rfl, by rw [collectI_length]; exact e2, ?_⟩
          have hn : s[n]? = some s[n] := List.getElem?_eq_getElem e2
          rw [stAt_get hn] at e3
          rw [mem_outL ag st s n hn] at hc
          rw [stAt_get (collectI_get ag st s n hn)]
          unfold endX
          cases hag : ag.contains (s[n]).st with
          | false => simpa [clearL] using e3
          | true =>
            cases hst : st.getD n false with
            | false => rw [hag, hst] at hc; exact absurd rfl hc
            | true => simp [clearL, It.setst]
  · obtain ⟨i, x, hx, -, rfl⟩ := collectI_back ag st s hx'
    unfold endX
    split
    · split
      · simp [clearL, It.setst]
      · simp
    · exact h.sts x (List.mem_of_getElem? hx)
  · obtain ⟨i, x, hx, -, rfl⟩ := collectI_back ag st s hx'
    unfold endX at h2 ⊢
    split
    · split
      · rename_i h3 h4
        rw [if_pos h3, if_pos h4] at h2
        simp [clearL, It.setst] at h2
      · exact ⟨rfl, rfl⟩
    · rename_i h3
      rw [if_neg h3] at h2
      have := h.gone x (List.mem_of_getElem? hx) h2
      simp [clearL, this.1, this.2]
/-- nothing is young behind it -/
theorem collect_old {s : List It} (ag : List Int) (st : List Bool) (h0 : (0 : Int) ∈ ag) (i : Nat) : stAt (collectI ag st s) i ≠ some 0 := by
  intro e
  obtain ⟨x', h1, h2⟩ := get_stAt e
  obtain ⟨j, x, hx, -, rfl⟩ := collectI_back ag st s (List.mem_of_getElem? h1)
  unfold endX at h2
  split at h2
  · split at h2
    · simp [clearL, It.setst] at h2
    · simp at h2
  · rename_i h3
    have h4 : x.st = 0 := h2
    rw [h4, List.contains_iff_mem] at h3
    exact h3 h0

/-! ### the collection as the program does it: first thing by thing, then place by place -/
def colX (ag : List Int) (st : List Bool) (n : Nat) (x : It) : It := if ag.contains x.st = true then (if st.getD n false = true then x.setst 1 else ⟨[], 2, false⟩) else x
def colK (ag : List Int) (st : List Bool) (m : Nat) (s : List It) : List It := s.mapIdx fun n x => if n < m then colX ag st n x else x
theorem colK_length (ag : List Int) (st : List Bool) (m : Nat) (s : List It) : (colK ag st m s).length = s.length := by simp [colK]
theorem colK_get (ag : List Int) (st : List Bool) (m : Nat) (s : List It) (i : Nat) {x : It} (h : s[i]? = some x) : (colK ag st m s)[i]? = some (if i < m then colX ag st i x else x) := by
  unfold colK; rw [List.getElem?_mapIdx, h]; rfl
theorem colK_zero (ag : List Int) (st : List Bool) (s : List It) : colK ag st 0 s = s := by
  apply List.ext_getElem?; intro i
  unfold colK; rw [List.getElem?_mapIdx]
  cases s[i]? <;> simp
theorem colK_step (ag : List Int) (st : List Bool) (m : Nat) (s : List It) : colK ag st (m + 1) s = (colK ag st m s).modify m (colX ag st m) := by
  apply List.ext_getElem?; intro i
  rw [get_modify]
  cases hs : s[i]? with
  | none =>
    have hi : s.length ≤ i := by rw [List.getElem?_eq_none_iff] at hs; exact hs
    rw [List.getElem?_eq_none (by rw [colK_length]; exact hi), List.getElem?_eq_none (by rw [colK_length]; exact hi)]
    simp
  | some x =>
    rw [colK_get ag st (m + 1) s i hs, colK_get ag st m s i hs]
    by_cases e : m = i
    · subst e
      rw [if_pos (by omega), if_pos rfl, if_neg (by omega)]; rfl
    · rw [if_neg e]
      by_cases h : i < m
      · rw [if_pos (by omega), if_pos h]
      · rw [if_neg (by omega), if_neg h]
theorem colK_all (ag : List Int) (st : List Bool) (s : List It) : colK ag st s.length s = goneK (outL ag st s) 2 (stayL ag st s) := by
  apply List.ext_getElem?; intro i
  cases hs : s[i]? with
  | none =>
    have hi : s.length ≤ i := by rw [List.getElem?_eq_none_iff] at hs; exact hs
    rw [List.getElem?_eq_none (by rw [colK_length]; exact hi), List.getElem?_eq_none (by rw [goneK_length, stayL_length]; exact hi)]
  | some x =>
    rw [colK_get ag st _ s i hs, if_pos (List.getElem?_eq_some_iff.1 hs).1, goneK_get _ 2 _ i (stayL_get ag st s i hs), mem_outL ag st s i hs]
    unfold colX stayX
    cases ag.contains x.st <;> cases st.getD i false <;> simp
/-- how many went -/
theorem outL_snoc (ag : List Int) (st : List Bool) (s : List It) (k : Nat) {x : It} (h : s[k]? = some x) : rising ((outB ag st s).take (k + 1)) = rising ((outB ag st s).take k) ++ if (ag.contains x.st && !st.getD k false) = true then [(k : Int)] else [] :=
  rising_snoc _ k _ (outB_get ag st s k h)
/-- a place is cleared just if what it has is gone -/
theorem clear_iff {s : List It} (h : GInv s) (ag : List Int) (st : List Bool) {i : Nat} {x : It} (hx : (goneK (outL ag st s) 2 (stayL ag st s))[i]? = some x) {k : Int} (hk : k ∈ x.has) :
    k = -1 ∧ (outL ag st s).contains k = false ∨ ∃ n : Nat, k = (n : Int) ∧ n < s.length ∧ (stAt (goneK (outL ag st s) 2 (stayL ag st s)) n = some 2 ↔ (outL ag st s).contains k = true) := by
  have hlt : i < s.length := by have := (List.getElem?_eq_some_iff.1 hx).1; rw [goneK_length, stayL_length] at this; exact this
  have hs : s[i]? = some s[i] := List.getElem?_eq_getElem hlt
  have hin : k ∈ (s[i]).has := by
    rw [goneK_get _ 2 _ i (stayL_get ag st s i hs)] at hx
    injection hx with hx
    subst hx
    split at hk
    · simp at hk
    · unfold stayX at hk
      split at hk
      · exact hk
      · exact hk
  rcases h.refs _ (List.mem_of_getElem? hs) k hin with rfl | ⟨n, rfl, e2, e3⟩
  · left
    refine ⟨rfl, ?_⟩
    rw [Bool.eq_false_iff]
    intro hc
    obtain ⟨n, e, -⟩ := outL_in ag st s _ (List.contains_iff_mem.1 hc)
    omega
  · right
    refine ⟨n, rfl, e2, ?_⟩
    have hn : s[n]? = some s[n] := List.getElem?_eq_getElem e2
    rw [stAt_get hn] at e3
    rw [stAt_get (goneK_get (outL ag st s) 2 _ n (stayL_get ag st s n hn)), mem_outL ag st s n hn]
    unfold stayX
    cases ag.contains (s[n]).st <;> cases st.getD n false <;> simp [It.setst] <;> simpa using e3

end Go.Proofs.Ytpkccpegdpodoaa

/- Two generations: the deeds; what is remembered. No program is named here. -/
namespace Go.Proofs.Ytpkccpegdpodoaa

/-! ### who stays -/
open Classical in
noncomputable def ygL (s : List It) : List Bool := (List.range s.length).map fun n => decide (Yg s n)
def Sound (s : List It) (st : List Bool) : Prop := st.length = s.length ∧ ∀ n : Nat, st[n]? = some true → Yg s n
def Closed (s : List It) (st : List Bool) : Prop :=
  (∀ k : Nat, stAt s k = some 0 → heldAt s k → st[k]? = some true) ∧ (∀ i k : Nat, (stAt s i = some 1 ∨ st[i]? = some true) → edge s i k → stAt s k = some 0 → st[k]? = some true)
theorem ygL_length (s : List It) : (ygL s).length = s.length := by simp [ygL]
open Classical in
theorem ygL_get (s : List It) (n : Nat) (h : n < s.length) : (ygL s)[n]? = some (decide (Yg s n)) := by
  unfold ygL; rw [List.getElem?_map, List.getElem?_range h]; rfl
theorem Closed.yg {s : List It} {st : List Bool} (h : Closed s st) {n : Nat} (hy : Yg s n) : st[n]? = some true := by
  induction hy with
  | held h1 h2 => exact h.1 _ h1 h2
  | old h1 h2 h3 => exact h.2 _ _ (.inl h1) h2 h3
  | step _ h2 h3 ih => exact h.2 _ _ (.inr ih) h2 h3
open Classical in
theorem ygL_eq {s : List It} {st : List Bool} (h1 : Sound s st) (h2 : Closed s st) : st = ygL s := by
  apply List.ext_getElem?
  intro n
  by_cases hn : n < s.length
  · rw [ygL_get s n hn]
    have hx : st[n]? = some (st[n]'(by rw [h1.1]; exact hn)) := List.getElem?_eq_getElem _
    by_cases hy : Yg s n
    · rw [h2.yg hy, decide_eq_true hy]
    · rw [decide_eq_false hy]
      rw [hx]
      congr 1
      rw [Bool.eq_false_iff]
      intro e
      exact hy (h1.2 n (by rw [hx, e]))
  · rw [List.getElem?_eq_none (by rw [h1.1]; omega), List.getElem?_eq_none (by rw [ygL_length]; omega)]

noncomputable def minorI (s : List It) : List It := collectI [0] (ygL s) s
noncomputable def minorN (s : List It) : Nat := (outL [0] (ygL s) s).length
noncomputable def majorI (s : List It) : List It := collectI [0, 1] (needed s) s
noncomputable def majorN (s : List It) : Nat := (outL [0, 1] (needed s) s).length
noncomputable def roomI (nu : Int) (s : List It) : List It := if nu ≤ ((are s 0).length : Int) then minorI s else s
def setG (d : Dd) (s : List It) : List It := s.modify d.a.toNat (It.sethas d.n.toNat d.b)
def holdG (d : Dd) (s : List It) : List It := s.modify d.a.toNat (It.sethl (decide (d.dd = 4)))

/-- what a deed comes to: a number, an error, the things -/
noncomputable def gensI (nu : Int) (s : List It) (d : Dd) : Int × Int × List It :=
  if d.dd = 1 then (if newE s d.n ≠ 0 then (0, newE s d.n, s) else ((s.length : Int), 0, roomI nu s ++ [newI 0 d.n]))
  else if d.dd = 2 then (if setE s d ≠ 0 then (0, setE s d, s) else (0, 0, setG d s))
  else if d.dd = 4 ∨ d.dd = 3 then (if holdE s d ≠ 0 then (0, holdE s d, s) else (0, 0, holdG d s))
  else if d.dd = 6 then ((minorN s : Int), 0, minorI s)
  else if d.dd = 7 then ((majorN s : Int), 0, majorI s)
  else (0, 7, s)
theorem minorI_length (s : List It) : (minorI s).length = s.length := collectI_length _ _ _
theorem majorI_length (s : List It) : (majorI s).length = s.length := collectI_length _ _ _
theorem roomI_length (nu : Int) (s : List It) : (roomI nu s).length = s.length := by unfold roomI; split; exact minorI_length s; rfl

/-! ### what is remembered -/
def youngP (s : List It) (v : Int) : Prop := ∃ k : Nat, v = (k : Int) ∧ stAt s k = some 0
structure RemP (s : List It) (P : Nat → Prop) : Prop where
  all : ∀ i k : Nat, stAt s i = some 1 → edge s i k → stAt s k = some 0 → P i
  old : ∀ i : Nat, P i → stAt s i = some 1
section
variable {s : List It} {P : Nat → Prop}
theorem RemP.start : RemP [] (fun _ => False) := ⟨fun i k h => by simp [stAt] at h, fun i h => h.elim⟩
theorem RemP.none (h : ∀ i, stAt s i ≠ some 0) : RemP s (fun _ => False) := ⟨fun i k _ _ h0 => h k h0, fun i h => h.elim⟩
theorem RemP.iff {Q : Nat → Prop} (h : RemP s P) (hq : ∀ i, P i ↔ Q i) : RemP s Q := ⟨fun i k h1 h2 h3 => (hq i).1 (h.all i k h1 h2 h3), fun i h1 => h.old i ((hq i).2 h1)⟩
theorem stAt_push (s : List It) (y : It) {i : Nat} (h : i < s.length) : stAt (s ++ [y]) i = stAt s i := by unfold stAt; rw [List.getElem?_append_left h]
theorem push_getG {s : List It} {y x : It} {i : Nat} (h : (s ++ [y])[i]? = some x) : s[i]? = some x ∨ i = s.length ∧ x = y := by
  have hlt := (List.getElem?_eq_some_iff.1 h).1
  rw [List.length_append, List.length_singleton] at hlt
  by_cases e : i < s.length
  · rw [List.getElem?_append_left e] at h; exact .inl h
  · obtain rfl : i = s.length := by omega
    simp at h; exact .inr ⟨rfl, h.symm⟩
theorem newI_has {v n k : Int} (h : k ∈ (newI v n).has) : k = -1 := by simp only [newI, List.mem_replicate] at h; exact h.2
theorem RemP.push (h : RemP s P) (hr : GInv s) (n : Int) : RemP (s ++ [newI 0 n]) P := by
  refine ⟨fun i k h1 h2 h3 => ?_, fun i hi => ?_⟩
  · obtain ⟨x, hx, hk⟩ := h2
    rcases push_getG hx with hx | ⟨-, rfl⟩
    · have hi := (List.getElem?_eq_some_iff.1 hx).1
      have he : edge s i k := ⟨x, hx, hk⟩
      rw [stAt_push s _ hi] at h1
      rw [stAt_push s _ (hr.edge_lt he).1] at h3
      exact h.all i k h1 he h3
    · have := newI_has hk; omega
  · have h1 := h.old i hi
    rw [stAt_push s _ (stAt_lt h1)]; exact h1
theorem stAt_hl (s : List It) (a : Nat) (b : Bool) (i : Nat) : stAt (s.modify a (It.sethl b)) i = stAt s i := by
  unfold stAt; rw [get_modify]
  split
  · cases s[i]? <;> rfl
  · rfl
theorem edge_hl (s : List It) (a : Nat) (b : Bool) (i k : Nat) : edge (s.modify a (It.sethl b)) i k ↔ edge s i k := by
  unfold edge; rw [get_modify]
  split
  · cases s[i]? <;> simp [It.sethl]
  · exact Iff.rfl
theorem stAt_has (s : List It) (a j : Nat) (v : Int) (i : Nat) : stAt (s.modify a (It.sethas j v)) i = stAt s i := by
  unfold stAt; rw [get_modify]
  split
  · cases s[i]? <;> rfl
  · rfl
theorem edge_has {s : List It} {a j : Nat} {v : Int} {i k : Nat} (h : edge (s.modify a (It.sethas j v)) i k) : edge s i k ∨ i = a ∧ v = (k : Int) := by
  obtain ⟨x', h1, h2⟩ := h
  rw [get_modify] at h1
  split at h1
  · rename_i e
    cases hs : s[i]? with
    | none => rw [hs] at h1; cases h1
    | some x =>
      rw [hs] at h1; injection h1 with h1; subst h1
      rcases List.mem_or_eq_of_mem_set h2 with h3 | h3
      · exact .inl ⟨x, hs, h3⟩
      · exact .inr ⟨e.symm, h3.symm⟩
  · exact .inl ⟨x', h1, h2⟩
theorem RemP.hold (h : RemP s P) (a : Nat) (b : Bool) : RemP (s.modify a (It.sethl b)) P :=
  ⟨fun i k h1 h2 h3 => h.all i k (by rw [← stAt_hl s a b]; exact h1) ((edge_hl s a b i k).1 h2) (by rw [← stAt_hl s a b]; exact h3), fun i hi => by rw [stAt_hl]; exact h.old i hi⟩
theorem RemP.set (h : RemP s P) (a j : Nat) (v : Int) : RemP (s.modify a (It.sethas j v)) (fun i => P i ∨ i = a ∧ stAt s a = some 1 ∧ youngP s v) := by
  refine ⟨fun i k h1 h2 h3 => ?_, fun i hi => ?_⟩
  · rw [stAt_has] at h1 h3
    rcases edge_has h2 with h2 | ⟨rfl, rfl⟩
    · exact .inl (h.all i k h1 h2 h3)
    · exact .inr ⟨rfl, h1, k, rfl, h3⟩
  · rw [stAt_has]
    rcases hi with hi | ⟨rfl, h1, -⟩
    · exact h.old i hi
    · exact h1
theorem RemP.collect (ag : List Int) (st : List Bool) (h0 : (0 : Int) ∈ ag) (s : List It) : RemP (collectI ag st s) (fun _ => False) := .none (collect_old ag st h0)

/-! ### each deed keeps what is kept -/
theorem GInv.push (h : GInv s) {n : Int} (hs : s.length < 100) (hn : n ≤ 10) : GInv (s ++ [newI 0 n]) := by
  have hmem : ∀ x, x ∈ s ++ [newI 0 n] → x ∈ s ∨ x = newI 0 n := by intro x hx; simpa using hx
  refine ⟨by simp; omega, fun x hx => ?_, fun x hx k hk => ?_, fun x hx => ?_, fun x hx h2 => ?_⟩
  · rcases hmem x hx with h1 | rfl
    · exact h.long x h1
    · simp [newI]; omega
  · rcases hmem x hx with h1 | rfl
    · rcases h.refs x h1 k hk with e | ⟨m, e, e2, e3⟩
      · exact .inl e
      · exact .inr ⟨m, e, by simp; omega, by rw [stAt_push s _ e2]; exact e3⟩
    · exact .inl (newI_has hk)
  · rcases hmem x hx with h1 | rfl
    · exact h.sts x h1
    · left; rfl
  · rcases hmem x hx with h1 | rfl
    · exact h.gone x h1 h2
    · simp [newI] at h2
theorem GInv.hold_ (h : GInv s) {a : Nat} {b : Bool} (ha : stAt s a ≠ some 2) : GInv (s.modify a (It.sethl b)) := by
  refine ⟨by simpa using h.small, fun x' hx => ?_, fun x' hx k hk => ?_, fun x' hx => ?_, fun x' hx h2 => ?_⟩
  · obtain ⟨i, x, h1, -, rfl⟩ := modify_mem hx
    have := h.long x (List.mem_of_getElem? h1)
    split <;> exact this
  · obtain ⟨i, x, h1, -, rfl⟩ := modify_mem hx
    have := h.refs x (List.mem_of_getElem? h1) k (by split at hk <;> exact hk)
    rcases this with e | ⟨m, e, e2, e3⟩
    · exact .inl e
    · exact .inr ⟨m, e, by simpa using e2, by rw [stAt_hl]; exact e3⟩
  · obtain ⟨i, x, h1, -, rfl⟩ := modify_mem hx
    have := h.sts x (List.mem_of_getElem? h1)
    split <;> exact this
  · obtain ⟨i, x, h1, -, rfl⟩ := modify_mem hx
    have h2' : x.st = 2 := by split at h2 <;> exact h2
    have hg := h.gone x (List.mem_of_getElem? h1) h2'
    split
    · rename_i e
      subst e
      exact absurd (by rw [stAt_get h1, h2']) ha
    · exact hg
theorem GInv.set_ (h : GInv s) {a j : Nat} {v : Int} (ha : stAt s a ≠ some 2) (hv : v = -1 ∨ ∃ m : Nat, v = (m : Int) ∧ m < s.length ∧ stAt s m ≠ some 2) : GInv (s.modify a (It.sethas j v)) := by
  refine ⟨by simpa using h.small, fun x' hx => ?_, fun x' hx k hk => ?_, fun x' hx => ?_, fun x' hx h2 => ?_⟩
  · obtain ⟨i, x, h1, -, rfl⟩ := modify_mem hx
    have := h.long x (List.mem_of_getElem? h1)
    split
    · simpa [It.sethas] using this
    · exact this
  · obtain ⟨i, x, h1, -, rfl⟩ := modify_mem hx
    have hc : k ∈ x.has ∨ k = v := by
      split at hk
      · exact List.mem_or_eq_of_mem_set hk
      · exact .inl hk
    rcases hc with hc | rfl
    · rcases h.refs x (List.mem_of_getElem? h1) k hc with e | ⟨m, e, e2, e3⟩
      · exact .inl e
      · exact .inr ⟨m, e, by simpa using e2, by rw [stAt_has]; exact e3⟩
    · rcases hv with e | ⟨m, e, e2, e3⟩
      · exact .inl e
      · exact .inr ⟨m, e, by simpa using e2, by rw [stAt_has]; exact e3⟩
  · obtain ⟨i, x, h1, -, rfl⟩ := modify_mem hx
    have := h.sts x (List.mem_of_getElem? h1)
    split <;> exact this
  · obtain ⟨i, x, h1, -, rfl⟩ := modify_mem hx
    have h2' : x.st = 2 := by split at h2 <;> exact h2
    have hg := h.gone x (List.mem_of_getElem? h1) h2'
    split
    · rename_i e
      subst e
      exact absurd (by rw [stAt_get h1, h2']) ha
    · exact hg
theorem setE_namedG {s : List It} {d : Dd} (h : setE s d = 0) : namedE s (setL d) = 0 ∧ 0 ≤ d.n ∧ d.n < ((hasAt s d.a).length : Int) := by
  unfold setE at h
  split at h
  · rename_i h1; exact absurd h h1
  · rename_i h1
    split at h
    · cases h
    · exact ⟨by simpa using h1, by omega, by omega⟩
theorem holdE_namedG {s : List It} {d : Dd} (h : holdE s d = 0) : namedE s [d.a] = 0 := by
  unfold holdE at h
  split at h
  · rename_i h1; exact absurd h h1
  · rename_i h1; simpa using h1
theorem setE_factsG {s : List It} {d : Dd} (hg : GInv s) (h : setE s d = 0) : (∃ a : Nat, d.a = (a : Int) ∧ a < s.length ∧ stAt s a ≠ some 2) ∧ (d.b = -1 ∨ ∃ m : Nat, d.b = (m : Int) ∧ m < s.length ∧ stAt s m ≠ some 2) := by
  have hz := namedE_zero (setE_namedG h).1
  constructor
  · obtain ⟨a, ha, hal, har⟩ := hz d.a (by unfold setL; split <;> simp)
    exact ⟨a, ha, hal, (hg.need har).2⟩
  · by_cases e : d.b = -1
    · exact .inl e
    · obtain ⟨b, hb, hbl, hbr⟩ := hz d.b (by unfold setL; rw [if_neg e]; simp)
      exact .inr ⟨b, hb, hbl, (hg.need hbr).2⟩
theorem holdE_factsG {s : List It} {d : Dd} (hg : GInv s) (h : holdE s d = 0) : ∃ a : Nat, d.a = (a : Int) ∧ a < s.length ∧ stAt s a ≠ some 2 := by
  obtain ⟨a, ha, hal, har⟩ := namedE_zero (holdE_namedG h) d.a (by simp)
  exact ⟨a, ha, hal, (hg.need har).2⟩
theorem newE_zeroG {s : List It} {n : Int} (h : newE s n = 0) : 0 ≤ n ∧ n ≤ 10 ∧ s.length < 100 := by
  unfold newE at h
  split at h
  · cases h
  · split at h
    · cases h
    · omega
theorem GInv.room (h : GInv s) (nu : Int) : GInv (roomI nu s) := by
  unfold roomI; split
  · exact h.collect _ _
  · exact h
theorem gens_inv {nu : Int} (h : GInv s) (d : Dd) : GInv (gensI nu s d).2.2 := by
  unfold gensI
  split
  · split
    · exact h
    · rename_i he
      obtain ⟨h1, h2, h3⟩ := newE_zeroG (by simpa using he)
      exact (h.room nu).push (by rw [roomI_length]; exact h3) h2
  split
  · split
    · exact h
    · rename_i he
      obtain ⟨⟨a, ha, -, ha2⟩, hb⟩ := setE_factsG h (by simpa using he)
      unfold setG
      rw [ha, Int.toNat_natCast]
      exact h.set_ ha2 hb
  split
  · split
    · exact h
    · rename_i he
      obtain ⟨a, ha, -, ha2⟩ := holdE_factsG h (by simpa using he)
      unfold holdG
      rw [ha, Int.toNat_natCast]
      exact h.hold_ ha2
  split
  · exact h.collect _ _
  split
  · exact h.collect _ _
  · exact h
end

/-! ### old ones that have young ones -/
def isYg (s : List It) (k : Int) : Bool := decide (0 ≤ k) && decide (stAt s k.toNat = some 0)
def barX (s : List It) (x : It) : Bool := decide (x.st = 1) && x.has.any (isYg s)
def barI (s : List It) : List Int := rising (s.map (barX s))
theorem isYg_iff {s : List It} {k : Int} : isYg s k = true ↔ youngP s k := by
  unfold isYg youngP
  rw [Bool.and_eq_true, decide_eq_true_eq, decide_eq_true_eq]
  constructor
  · rintro ⟨h1, h2⟩; exact ⟨k.toNat, by omega, h2⟩
  · rintro ⟨n, rfl, h2⟩; exact ⟨by omega, by simpa using h2⟩
theorem mem_barI {s : List It} {P : Nat → Prop} (h : RemP s P) (x : Int) : x ∈ barI s ↔ ∃ n : Nat, x = (n : Int) ∧ P n ∧ ∃ y, s[n]? = some y ∧ y.has.any (isYg s) = true := by
  unfold barI
  rw [mem_rising]
  constructor
  · rintro ⟨n, rfl, hn⟩
    rw [List.getElem?_map] at hn
    cases hs : s[n]? with
    | none => rw [hs] at hn; cases hn
    | some y =>
      rw [hs] at hn; injection hn with hn
      unfold barX at hn
      rw [Bool.and_eq_true, decide_eq_true_eq] at hn
      obtain ⟨h1, h2⟩ := hn
      obtain ⟨k, hk, hy⟩ := List.any_eq_true.1 h2
      obtain ⟨m, rfl, hm⟩ := isYg_iff.1 hy
      exact ⟨n, rfl, h.all n m (by rw [stAt_get hs, h1]) ⟨y, hs, hk⟩ hm, y, hs, h2⟩
  · rintro ⟨n, rfl, hP, y, hs, h2⟩
    refine ⟨n, rfl, ?_⟩
    rw [List.getElem?_map, hs]
    have h1 := h.old n hP
    rw [stAt_get hs] at h1
    injection h1 with h1
    simp [barX, h1, h2]

end Go.Proofs.Ytpkccpegdpodoaa

/- gens: a heap's state; New, isYoung. -/
namespace Go.Proofs.Ytpkccpegdpodoaa
open Go.RowKit Go.Maps

attribute [local go_sem ↓] Go.wp_at_zero Go.wp_at_succ

theorem GInv.fine {s : List It} (h : GInv s) : Fine s := ⟨h.small, h.long, fun x hx k hk => (h.refs x hx k hk).imp id (fun ⟨n, e, _⟩ => by omega), h.right, h.rightL⟩

/-- a heap at block p, its map at block b -/
def HpL (w : World) (base : Nat) (F : Nat → Prop) (p : Nat) (nu : Int) (b : Nat) (A : Option Addr) (c : Nat) (s : List It) (l : List ItR) : Prop :=
  Blk w p 204 #[.int .i64 nu, .slice A l.length c, .map (some b)] ∧ Its w base F 206 A c l ∧ F p ∧ base ≤ p ∧ its l = s
def HpA (w : World) (base : Nat) (F : Nat → Prop) (p : Nat) (nu : Int) (b : Nat) (A : Option Addr) (c : Nat) (s : List It) : Prop := ∃ l : List ItR, HpL w base F p nu b A c s l
def HpG (w : World) (base : Nat) (F : Nat → Prop) (p : Nat) (nu : Int) (b : Nat) (s : List It) : Prop := ∃ (A : Option Addr) (c : Nat), HpA w base F p nu b A c s
section
variable {w w' : World} {base p b : Nat} {F G : Nat → Prop} {nu : Int} {s : List It}
theorem HpG.fresh (h : HpG w base F p nu b s) (hb : Below w.heap.size w w') : HpG w' base F p nu b s := by
  obtain ⟨A, c, l, h1, h2, h3, h4, h5⟩ := h
  exact ⟨A, c, l, h1.fresh hb, h2.fresh hb, h3, h4, h5⟩
theorem HpG.touch (h : HpG w base F p nu b s) (ht : Touch G w w') (hd : ∀ g, F g → ¬ G g) : HpG w' base F p nu b s := by
  obtain ⟨A, c, l, h1, h2, h3, h4, h5⟩ := h
  exact ⟨A, c, l, (ht.block p h1.lt (hd p h3)).trans h1, h2.touch ht hd, h3, h4, h5⟩
theorem HpG.drewN (h : HpG w base F p nu b s) (n : Nat) : HpG (w.drewN n) base F p nu b s := by
  obtain ⟨A, c, l, h1, h2, h3, h4, h5⟩ := h
  exact ⟨A, c, l, h1.drewN n, h2.drewN n, h3, h4, h5⟩
theorem HpG.mono (h : HpG w base F p nu b s) (hF : ∀ g, F g → G g) : HpG w base G p nu b s := by
  obtain ⟨A, c, l, h1, h2, h3, h4, h5⟩ := h
  exact ⟨A, c, l, h1, h2.mono hF, hF p h3, h4, h5⟩
theorem HpG.lt (h : HpG w base F p nu b s) : p < w.heap.size ∧ F p ∧ base ≤ p := by
  obtain ⟨A, c, l, h1, h2, h3, h4, h5⟩ := h
  exact ⟨h1.lt, h3, h4⟩
end

/-- a set of numbers at block b, n entries at most -/
def Set_ (w : World) (b n : Nat) (D : DataW Unit) : Prop := w.ownsMap Try.prog 3 (unitElem (H := Unit)) b n D
def inSet (D : DataW Unit) (i : Nat) : Prop := Maps.has D (.int .i64 (i : Int)) = true
def Nums (D : DataW Unit) : Prop := ∀ kl, Maps.has D kl = true → ∃ i : Nat, kl = .int .i64 (i : Int)
theorem keyInt : Keyed Try.prog 3 := int_keyed Try.underlying3
section
variable {w w' : World} {b n : Nat} {D : DataW Unit}
theorem Set_.fresh (h : Set_ w b n D) (hb : Below w.heap.size w w') : Set_ w' b n D := by
  have hlt := h.lt
  obtain ⟨es, clock, hh, r⟩ := h
  exact ⟨es, clock, (hb.block b hlt).trans hh, r⟩
theorem Set_.touch {G : Nat → Prop} (h : Set_ w b n D) (ht : Touch G w w') (hd : ¬ G b) : Set_ w' b n D := by
  have hlt := h.lt
  obtain ⟨es, clock, hh, r⟩ := h
  exact ⟨es, clock, (ht.block b hlt hd).trans hh, r⟩
theorem Set_.drewN (h : Set_ w b n D) (k : Nat) : Set_ (w.drewN k) b n D := h
theorem Set_.lt (h : Set_ w b n D) : b < w.heap.size := World.ownsMap.lt h
theorem Set_.mono (h : Set_ w b n D) {m : Nat} (hm : n ≤ m) : Set_ w b m D := World.ownsMap.mono h hm
theorem Set_.far (h : Set_ w b n D) {p : Addr} (hp : b ≠ p.block) (u : Value) : Set_ (w.setCell p u) b n D := World.ownsMap.setCell h hp u
theorem Set_.own_ne {α : Type} [Flat α] {base : Nat} {T : TypeId} {A : Option Addr} {c : Nat} {l : List α} (h : Set_ w b n D) (ho : Own w base T A c l) : rowOf A ≠ some b := by
  intro e
  obtain ⟨es, clock, hh, -⟩ := h
  rcases ho.2 with ⟨h1, -⟩ | ⟨g', cap, cur, hv, -, hg, -⟩
  · injection h1 with h1; subst h1; cases e
  · injection hv with hv
    subst hv
    have e : some g' = some b := e
    injection e with e
    subst e
    rw [hh] at hg; cases hg
theorem Set_.blk_ne {g : Nat} {t : TypeId} {cs : Array Value} (h : Set_ w b n D) (hg : Blk w g t cs) : g ≠ b := by
  intro e
  obtain ⟨es, clock, hh, -⟩ := h
  subst e
  unfold Blk at hg
  rw [hh] at hg; cases hg
end

/-- the whole: a heap and what it remembers -/
def Gn (w : World) (base : Nat) (F : Nat → Prop) (p : Nat) (nu : Int) (n : Nat) (s : List It) : Prop :=
  ∃ (b : Nat) (D : DataW Unit), HpG w base F p nu b s ∧ Set_ w b n D ∧ F b ∧ base ≤ b ∧ RemP s (inSet D) ∧ Nums D
section
variable {w w' : World} {base p n : Nat} {F G : Nat → Prop} {nu : Int} {s : List It}
theorem Gn.fresh (h : Gn w base F p nu n s) (hb : Below w.heap.size w w') : Gn w' base F p nu n s := by
  obtain ⟨b, D, h1, h2, h3⟩ := h
  exact ⟨b, D, h1.fresh hb, h2.fresh hb, h3⟩
theorem Gn.touch (h : Gn w base F p nu n s) (ht : Touch G w w') (hd : ∀ g, F g → ¬ G g) : Gn w' base F p nu n s := by
  obtain ⟨b, D, h1, h2, h3, h4⟩ := h
  exact ⟨b, D, h1.touch ht hd, h2.touch ht (hd b h3), h3, h4⟩
theorem Gn.drewN (h : Gn w base F p nu n s) (k : Nat) : Gn (w.drewN k) base F p nu n s := by
  obtain ⟨b, D, h1, h2, h3⟩ := h
  exact ⟨b, D, h1.drewN k, h2.drewN k, h3⟩
theorem Gn.mono (h : Gn w base F p nu n s) (hF : ∀ g, F g → G g) : Gn w base G p nu n s := by
  obtain ⟨b, D, h1, h2, h3, h4⟩ := h
  exact ⟨b, D, h1.mono hF, h2, hF b h3, h4⟩
theorem Gn.more (h : Gn w base F p nu n s) {m : Nat} (hm : n ≤ m) : Gn w base F p nu m s := by
  obtain ⟨b, D, h1, h2, h3⟩ := h
  exact ⟨b, D, h1, h2.mono hm, h3⟩
end

theorem not_in_empty (kl : Lit) : Maps.has (.map [] : DataW Unit) kl = false := rfl

set_option maxRecDepth 100000 in
theorem gnew_no (nu : Int) (w : World) (h : nu < 1 ∨ 100 < nu) :
    Calls Try.prog 86 #[.int .i64 nu] w fun e w' => e = .returned (.tuple #[.pointer none, .int .i64 1]) ∧ w = w' := by
  by_cases h1 : nu < 1
  · clear h
    go_enter Try.func86, Try.ntmps86
    go_wp2
    go_ret2
    exact ⟨rfl, rfl⟩
  · have h2 : 100 < nu := by omega
    clear h
    go_enter Try.func86, Try.ntmps86
    go_wp2
    go_ret2
    exact ⟨rfl, rfl⟩
set_option maxRecDepth 100000 in
theorem gnew_yes (nu : Int) (w : World) (h : 1 ≤ nu) (h2 : nu ≤ 100) :
    Calls Try.prog 86 #[.int .i64 nu] w fun e w' => e = .returned (.tuple #[.pointer (some ⟨w.heap.size + 1, 0, none⟩), .int .i64 0]) ∧ Gn w' w.heap.size (fun g => g = w.heap.size ∨ g = w.heap.size + 1) (w.heap.size + 1) nu 0 [] ∧ Below w.heap.size w w' := by
  have hmm := @run_makeMap Try.prog
  go_enter Try.func86, Try.ntmps86
  go_wp2
  go_ret2
  refine ⟨rfl, ⟨w.heap.size, .map [], ⟨none, 0, [], ?_, Its.nil_ _ _ _ _, .inr rfl, by omega, rfl⟩, ?_, .inl rfl, Nat.le_refl _, RemP.start.iff (fun i => ⟨fun h => h.elim, fun h => by unfold inSet at h; rw [not_in_empty] at h; cases h⟩), fun kl h => by rw [not_in_empty] at h; cases h⟩, ((Below.refl _ _).alloc (Nat.le_refl _) _).alloc (by simp) _⟩
  · have := Blk.new (w.alloc (.map #[] 0)) 204 #[.int .i64 nu, .slice none 0 0, .map (some w.heap.size)]
    simpa using this
  · exact (World.ownsMap_made w _ _ _).alloc _

set_option maxHeartbeats 800000 in
set_option maxRecDepth 100000 in
theorem isYoung_any (w : World) (base p b : Nat) (F : Nat → Prop) (nu k : Int) (s : List It) (h : HpG w base F p nu b s) (hk : k < 0 ∨ ∃ m : Nat, k = (m : Int) ∧ m < s.length) (hs : s.length ≤ 1000) :
    Calls Try.prog 161 #[.pointer (some ⟨p, 0, none⟩), .int .i64 k] w fun e w' => e = .returned (.bool (isYg s k)) ∧ w = w' := by
  obtain ⟨A, c, l, h1, h2, h3, h4, h5⟩ := h
  have c1 := h1.cell 1 (v := .slice A l.length c) rfl
  rcases hk with hk | ⟨m, rfl, hm⟩
  · have e0 : isYg s k = false := by unfold isYg; rw [decide_eq_false (by omega)]; rfl
    rw [e0]
    clear h1 h2 h5 e0
    go_enter Try.func161, Try.ntmps161
    go_wp2
    go_ret
    exact ⟨rfl, rfl⟩
  · rw [← h5, its_length] at hm hs
    obtain ⟨x, hx⟩ : ∃ x, l[m]? = some x := ⟨_, List.getElem?_eq_getElem hm⟩
    obtain ⟨g, rfl, hg1, hg2, q0, q1, q2⟩ := h2.cells hx
    have hst : stAt s m = some x.st := by rw [← h5]; exact stAt_get (its_get hx)
    have b0 : (0 : Int) ≤ (m : Int) := by omega
    have b1 : (m : Int) < (l.length : Int) := by omega
    have e0 : isYg s (m : Int) = (x.st == 0) := by
      unfold isYg
      rw [decide_eq_true b0, Int.toNat_natCast, hst]
      by_cases hz : x.st = 0
      · simp [hz]
      · have hz2 : (x.st == 0) = false := by simpa using hz
        rw [hz2, decide_eq_false (by simpa using hz)]; rfl
    rw [e0]
    clear h1 h2 h5 hx q0 q2 hst e0
    go_enter Try.func161, Try.ntmps161
    go_wp2
    go_ret
    exact ⟨rfl, rfl⟩

end Go.Proofs.Ytpkccpegdpodoaa

/- gens: the graph; who are of an age; may things be named? -/
namespace Go.Proofs.Ytpkccpegdpodoaa
open Go.RowKit

attribute [local go_sem ↓] Go.wp_at_zero Go.wp_at_succ

set_option maxHeartbeats 1600000 in
set_option maxRecDepth 100000 in
theorem hgraph_any (w : World) (base p : Nat) (F : Nat → Prop) (nu : Int) (b : Nat) (s : List It) (h : HpG w base F p nu b s) (hs : s.length ≤ 100) (hx : ∀ x ∈ s, x.has.length ≤ 10) (hneg : ∀ x ∈ s, ∀ k ∈ x.has, k = -1 ∨ 0 ≤ k) :
    Calls Try.prog 93 #[.pointer (some ⟨p, 0, none⟩)] w (GrPost s w) := by
  obtain ⟨i0, hi, hz0, hz1, hz2⟩ := info_parts infoInt
  obtain ⟨j0, hj, hy0, hy1, hy2⟩ := info_parts infoIntsG
  obtain ⟨A, c, l, h1, h2, h3, h4, h5⟩ := h
  have hl : s.length = l.length := by rw [← h5, its_length]
  obtain ⟨N, hN⟩ : ∃ N, l.length = N := ⟨_, rfl⟩
  rw [hN] at h1 hl
  rw [hl] at hs
  have c2 := h1.cell 1 (v := .slice A N c) rfl
  have hplt := h1.lt
  have H := Lib.hid (And.intro h1 (And.intro h2 (And.intro h5 (And.intro hx (And.intro hl (And.intro hN hneg)))))); clear h1 h2 h5 hl hx hN hneg
  go_enter Try.func93, Try.ntmps93
  go_wp2_with fail
  clear c2
  go_loopg [14] N (fun gk iv wr => ∃ (k m : Nat), k ≤ N ∧ gk = N - k ∧ iv = .int .i64 k ∧ m ≤ k ∧ Hid (GrB wr w.heap.size (w.heap.size + 1) k m s ∧ Blk wr w.heap.size 49 #[.slice none 0 0, .slice none 0 0]) ∧ Below w.heap.size w wr)
  case atStart =>
    refine ⟨0, 0, Nat.zero_le _, rfl, rfl, Nat.le_refl _, ⟨⟨none, none, 0, 0, [], Blk.at_ _ _ _ (by simp), GrS.start _ _, by simp [gHas], rfl, by simp [gRoots, rising, risingFrom]⟩, (Blk.new w _ _).alloc _⟩, ((Below.refl _ _).alloc (Nat.le_refl _) _).alloc (by simp) _⟩
  case round =>
    obtain ⟨k, m, hk, rfl, rfl, hm, hkeep, hbl⟩ := hrel
    obtain ⟨wo, rfl⟩ : ∃ wo : World, wo = wr := ⟨_, rfl⟩
    have hsz := hbl.size
    by_cases hlt : k < N
    · obtain ⟨x, hx⟩ : ∃ x, l[k]? = some x := ⟨_, List.getElem?_eq_getElem (by have := H.out.2.2.2.2.2.1; omega)⟩
      have hits := H.out.2.1.fresh hbl
      obtain ⟨g, rfl, hg1, hg2, q0, q1, q2⟩ := hits.cells hx
      obtain ⟨hxo, -, hxi, hxs⟩ := hits.sub k x hx
      obtain ⟨XA, xc, xh, xs, xb⟩ := x
      simp only at q0 q1 q2 hxo hxi hxs
      have hsx : s[k]? = some ⟨xh, xs, xb⟩ := by have := its_get hx; rw [H.out.2.2.1] at this; exact this
      have hx10 : xh.length ≤ 10 := H.out.2.2.2.1 _ (List.mem_of_getElem? hsx)
      have hxn : ∀ k ∈ xh, k = -1 ∨ 0 ≤ k := H.out.2.2.2.2.2.2 _ (List.mem_of_getElem? hsx)
      have b0 : (0 : Int) ≤ (k : Int) := by omega
      have b1 : (k : Int) < (N : Int) := by omega
      have ht1 := gHas_take s k _ hsx
      have ht2 := gRoots_take s k _ hsx
      simp only at ht1 ht2
      obtain ⟨XN, hXN⟩ : ∃ n, xh.length = n := ⟨_, rfl⟩
      rw [hXN] at q0 hx10
      have HX := Lib.hid (And.intro ht1 (And.intro ht2 (And.intro hXN (And.intro hxn (And.intro hxi hkeep.out)))))
      have HO := Lib.hid hxo
      clear ht1 ht2 hxn hxi hxo hsx hx hits hkeep hXN
      go_wp2_with fail
      refine wp_world (fun W => GrB W w.heap.size (w.heap.size + 1) k m s ∧ Blk W w.heap.size 49 #[.slice none 0 0, .slice none 0 0] ∧ Blk W wo.heap.size 206 #[.slice XA XN xc, .int .i64 xs, .bool xb] ∧ Below wo.heap.size wo W ∧ wo.heap.size < W.heap.size) ⟨?_, HX.out.2.2.2.2.2.2.alloc _, Blk.new _ _ _, (Below.refl _ _).alloc (Nat.le_refl _) _, by simp⟩ ?_
      · obtain ⟨HA, RA, hc, rc, hs', d1, d2, d3⟩ := HX.out.2.2.2.2.2.1
        exact ⟨HA, RA, hc, rc, hs', d1.alloc _, d2.alloc _, d3⟩
      rintro W ⟨⟨HA, RA, hc, rc, hs', d1, d2, d3, d4, d5⟩, d6, d7, d8, d9⟩
      have hGX : w.heap.size + 1 ≠ wo.heap.size := fun e => by have := d7; rw [← e] at this; have h0 := d1; unfold Blk at this h0; rw [h0] at this; injection this with this; injection this with _ this _; exact absurd this (by decide)
      have hGW := d1.lt
      have HW := Lib.hid (And.intro d1 (And.intro d2 (And.intro d3 (And.intro d4 (And.intro d5 (And.intro d6 (And.intro d7 (And.intro d8 ((HO.out.fresh d8).at_ HX.out.2.2.2.2.1)))))))))
      clear d1 d2 d3 d4 d5 d6 d7 d8 q0 q1 q2
      go_loopg [6, 22] XN (fun gk lv jv wj => ∃ (j q : Nat) (LA : Option Addr) (lc : Nat), j ≤ XN ∧ gk = XN - j ∧ jv = .int .i64 j ∧ lv = .slice LA q lc ∧ q ≤ j ∧ Hid (Own wj W.heap.size 3 LA lc ((xh.take j).filter fun k => decide (0 ≤ k)) ∧ ((xh.take j).filter fun k => decide (0 ≤ k)).length = q) ∧ Below W.heap.size W wj)
      case atStart => exact ⟨0, 0, none, 0, Nat.zero_le _, rfl, rfl, rfl, Nat.le_refl _, ⟨Own.nil_, rfl⟩, Below.refl _ _⟩
      case round =>
        obtain ⟨j, q, LA, lc, hjl, rfl, rfl, rfl, hq, hkeep, hbj⟩ := hrel
        have hsj := hbj.size
        by_cases hltj : j < XN
        · obtain ⟨b, o, z, rfl, hbB, hz, hzi, q0⟩ := (HW.out.2.2.2.2.2.2.2.2.below hbj).int_ (k := j) (by have := HX.out.2.2.1; omega)
          have hzn := HX.out.2.2.2.1 z (List.mem_of_getElem? hz)
          have hsn := filter_snocM xh (fun k => decide (0 ≤ k)) j z hz
          have c0 : (0 : Int) ≤ (j : Int) := by omega
          have c1 : (j : Int) < (XN : Int) := by omega
          by_cases hz1 : z = -1
          · subst hz1
            rw [if_neg (by simp), List.append_nil] at hsn
            have HS := Lib.hid hsn; clear hsn hz hzn
            go_wp2_with fail
            go_roundg (XN - (j + 1))
            case measure => omega
            case rel => exact ⟨j + 1, q, LA, lc, by omega, rfl, by go_num, rfl, by omega, by unfold Hid; rw [HS.out]; exact hkeep.out, hbj⟩
          · have hz0' : 0 ≤ z := by omega
            rw [if_pos (by simpa using hz0')] at hsn
            have d0 : (z != -1) = true := by simpa using hz1
            have HS := Lib.hid (And.intro hsn hkeep.out); clear hsn hz hzn hz1 d0 hkeep
            go_wp2_with (at_builtin; go_must (refine wpList_app (α := Int) (n := q) (m := 1) (B := wr.heap.size + 1) (r := [z]) rfl (.tmp 28) (.tmp 30) _ rfl W.heap.size 3 i0 _ 8 Try.underlying47 hi hz0 hz1 hz2 rfl (by decide) int_one (by rfl) HS.out.2.2 (HS.out.2.1.alloc _) (by rfl) (At.built wr _ _ [z] rfl (by intro u hu; simp at hu; subst hu; exact hzi)) rfl (by omega) (by simp only [maxLen]; omega) (by simp; omega) ?_); intro A2 c2 w2 hown2 hgr2 hat2; have hb2 : Below W.heap.size W w2 := (hbj.alloc hsj _).grown hgr2 (by simp; omega) (fun g hg => (HS.out.2.1.lt g hg).1); have HO2 := Lib.hid hown2; clear hown2 hgr2 hat2)
            go_roundg (XN - (j + 1))
            case measure => omega
            case rel => exact ⟨j + 1, q + 1, A2, c2, by omega, rfl, by go_num, rfl, by omega, ⟨by rw [HS.out.1]; exact HO2.out, by rw [HS.out.1, List.length_append, HS.out.2.2]; rfl⟩, hb2⟩
        · obtain rfl : j = XN := by omega
          obtain ⟨f1, f2⟩ := hkeep.out
          rw [List.take_of_length_le (by have := HX.out.2.2.1; omega)] at f1 f2
          obtain ⟨y, hy⟩ : ∃ y, (xh.filter fun k => decide (0 ≤ k)) = y := ⟨_, rfl⟩
          rw [hy] at f1 f2
          have hyi : ∀ k ∈ y, I64 k := fun k hk => by rw [← hy] at hk; exact HX.out.2.2.2.2.1 k (List.mem_filter.1 hk).1
          have hbw : Below w.heap.size w wr := hbl.trans ((HW.out.2.2.2.2.2.2.2.1.mono hsz).trans (hbj.mono (by omega)))
          have e1 := HW.out.1.fresh hbj
          have e2 := HW.out.2.1.fresh hbj
          have e6 := HW.out.2.2.2.2.2.1.fresh hbj
          have e7 := HW.out.2.2.2.2.2.2.1.fresh hbj
          have hap : ∀ g, rowOf LA = some g → rowOf RA ≠ some g := fun g hg e => by have h1 := (f1.lt g hg).1; have h2 := (HW.out.2.1.roots.lt g e).2; omega
          have hcs : (#[Value.slice LA q lc] : Array Value).toList = flat [(⟨LA, lc, y⟩ : SlR)] := by simp [flat, Flat.cells, f2]
          have g0 := e1.cell 0 (v := .slice HA k hc) rfl
          have x2 := e7.cell 2 (v := .bool xb) rfl
          have hXlt := e7.lt
          have hGlt := e1.lt
          have ht1 := HX.out.1
          have ht1' : gHas (s.take (k + 1)) = gHas (s.take k) ++ [y] := by rw [HX.out.1, hy]
          have HV := Lib.hid (And.intro e1 (And.intro e2 (And.intro e6 (And.intro e7 (And.intro (f1.base_le (by omega : w.heap.size ≤ W.heap.size)) (And.intro hyi (And.intro hap (And.intro hcs (And.intro ht1' (And.intro HX.out.2.1 (And.intro HW.out.2.2.1 (And.intro HW.out.2.2.2.1 HW.out.2.2.2.2.1))))))))))))
          clear e1 e2 e6 e7 f1 f2 hy hyi hap hcs ht1 ht1' hkeep hbj HW
          go_upto_region 13 with (at_builtin; go_must (refine wpList_app (α := SlR) (n := k) (m := 1) (B := wr.heap.size + 1) (r := [⟨LA, lc, y⟩]) rfl (.tmp 34) (.tmp 36) _ rfl w.heap.size 47 j0 _ 24 Try.underlying46 hj hy0 hy1 hy2 rfl (by decide) slr_one (by rfl) HV.out.2.2.2.2.2.2.2.2.2.2.2.1 (HV.out.2.1.row.alloc _) (by rfl) (At.built wr _ _ [(⟨LA, lc, y⟩ : SlR)] HV.out.2.2.2.2.2.2.2.1 (fun _ _ => trivial)) rfl (by omega) (by simp only [maxLen]; omega) (by simp; omega) ?_); intro A3 c3 w3 ho3 hgr3 hat3; have s3 := hgr3.size; simp only [World.size_alloc] at s3; have n1 := (HV.out.1.alloc (.cells #[.slice LA q lc] 47)).grown hgr3 (fun e => own_ne_ty (HV.out.2.1.row.alloc (.cells #[.slice LA q lc] 47)) (HV.out.1.alloc (.cells #[.slice LA q lc] 47)) (by decide) e); have n3 := (HV.out.2.2.2.1.alloc (.cells #[.slice LA q lc] 47)).grown hgr3 (fun e => own_ne_ty (HV.out.2.1.row.alloc (.cells #[.slice LA q lc] 47)) (HV.out.2.2.2.1.alloc (.cells #[.slice LA q lc] 47)) (by decide) e); have n5 := (HV.out.2.2.1.alloc (.cells #[.slice LA q lc] 47)).grown hgr3 (fun e => own_ne_ty (HV.out.2.1.row.alloc (.cells #[.slice LA q lc] 47)) (HV.out.2.2.1.alloc (.cells #[.slice LA q lc] 47)) (by decide) e); have n6 := (HV.out.2.1.alloc (.cells #[.slice LA q lc] 47)).push ho3 hgr3 (HV.out.2.2.2.2.1.alloc _) HV.out.2.2.2.2.2.1 HV.out.2.2.2.2.2.2.1; have hb3 : Below w.heap.size w w3 := (hbw.alloc (by omega) _).grown hgr3 (by simp; omega) (fun g hg => (HV.out.2.1.row.lt g hg).1); have z0 := n1.frozen 0; have g0' := n1.cell 0 (v := .slice HA k hc) rfl; have g1 := (n1.set_ 0 (.slice A3 (k + 1) c3)).cell 1 (v := .slice RA m rc) rfl; have x2' := (n3.far (p := ⟨w.heap.size + 1, 0, none⟩) (fun e => hGX e.symm) (.slice A3 (k + 1) c3)).cell 2 (v := .bool xb) rfl; have HZ := Lib.hid (And.intro n1 (And.intro n3 (And.intro n5 (And.intro n6 hb3)))); clear n1 n3 n5 n6 hb3 ho3 hgr3 hat3 g0 x2)
          refine wp_world (fun V => Hid (Blk V (w.heap.size + 1) 49 #[.slice A3 (k + 1) c3, .slice RA m rc] ∧ GrS V w.heap.size A3 c3 RA rc (hs' ++ [⟨LA, lc, y⟩]) (gRoots (s.take k)) ∧ Blk V wo.heap.size 206 #[.slice XA j xc, .int .i64 xs, .bool xb] ∧ Blk V w.heap.size 49 #[.slice none 0 0, .slice none 0 0]) ∧ Below w.heap.size w V) ⟨⟨HZ.out.1.set_ 0 _, HZ.out.2.2.2.1.blk HZ.out.1 (by decide) (by decide) _ _, HZ.out.2.1.far (fun e => hGX e.symm) _, HZ.out.2.2.1.far (by simp) _⟩, HZ.out.2.2.2.2.setCell (by simp) _⟩ ?_
          rintro V ⟨hV, hbV⟩
          clear HZ g0' g1 x2' z0
          have hsV := hbV.size
          have hVX := hV.out.2.2.1.lt
          have hVG := hV.out.1.lt
          have g1 := hV.out.1.cell 1 (v := .slice RA m rc) rfl
          have x2 := hV.out.2.2.1.cell 2 (v := .bool xb) rfl
          obtain ⟨-, -, -, -, -, -, -, -, ht1, ht2, hm1, hm2, hm3⟩ := HV.out
          have hhl : (hs' ++ [(⟨LA, lc, y⟩ : SlR)]).length = k + 1 := by rw [List.length_append, hm2]; rfl
          have hhm : (hs' ++ [(⟨LA, lc, y⟩ : SlR)]).map SlR.l = gHas (s.take (k + 1)) := by rw [List.map_append, hm1, ht1]; rfl
          have HR := Lib.hid (And.intro hm3 (And.intro hhl (And.intro hhm ht2))); clear hm1 hm2 hm3 hhl hhm ht1 ht2 HV
          cases xb with
          | false =>
            go_wp2_with fail
            go_roundg (N - (k + 1))
            case measure => omega
            case rel => exact ⟨k + 1, m, by omega, rfl, by go_num, by omega, ⟨⟨A3, RA, c3, rc, _, hV.out.1, by rw [HR.out.2.2.2]; simpa using hV.out.2.1, HR.out.2.2.1, HR.out.2.1, by rw [HR.out.2.2.2]; simpa using HR.out.1⟩, hV.out.2.2.2⟩, hbV⟩
          | true =>
            go_wp2_with (at_builtin; go_must (refine wpList_app (α := Int) (n := m) (m := 1) (B := V.heap.size + 1) (r := [(k : Int)]) rfl (.tmp 42) (.tmp 44) _ rfl w.heap.size 3 i0 _ 8 Try.underlying47 hi hz0 hz1 hz2 rfl (by decide) int_one (by rfl) HR.out.1 (hV.out.2.1.roots.alloc _) (by rfl) (At.built V _ _ [(k : Int)] rfl (by intro z hz; simp at hz; subst hz; exact (by unfold I64; omega : I64 (k : Int)))) rfl (by omega) (by simp only [maxLen]; omega) (by simp; omega) ?_); intro A5 c5 w5 ho5 hgr5 hat5; have p1 := (hV.out.1.alloc (.cells #[.int .i64 (k : Int)] 3)).grown hgr5 (fun e => own_ne_ty (hV.out.2.1.roots.alloc (.cells #[.int .i64 (k : Int)] 3)) (hV.out.1.alloc (.cells #[.int .i64 (k : Int)] 3)) (by decide) e); have p2 := (hV.out.2.2.2.alloc (.cells #[.int .i64 (k : Int)] 3)).grown hgr5 (fun e => own_ne_ty (hV.out.2.1.roots.alloc (.cells #[.int .i64 (k : Int)] 3)) (hV.out.2.2.2.alloc (.cells #[.int .i64 (k : Int)] 3)) (by decide) e); have p3 := (hV.out.2.1.alloc (.cells #[.int .i64 (k : Int)] 3)).root ho5 hgr5 hat5; have p4 : Below w.heap.size w w5 := (hbV.alloc (by omega) _).grown hgr5 (by simp; omega) (fun g hg => (hV.out.2.1.roots.lt g hg).1); have s5 := hgr5.size; have q1 := p1.cell 1 (v := .slice RA m rc) rfl; have z1 := p1.frozen 1; have HP := Lib.hid (And.intro p1 (And.intro p2 (And.intro p3 p4))); clear p1 p2 p3 p4 ho5 hgr5 hat5)
            go_roundg (N - (k + 1))
            case measure => omega
            case rel =>
              refine ⟨k + 1, m + 1, by omega, rfl, by go_num, by omega, ⟨⟨A3, A5, c3, c5, _, HP.out.1.set_ 1 _, ?_, HR.out.2.2.1, HR.out.2.1, by rw [HR.out.2.2.2]; simpa using HR.out.1⟩, HP.out.2.1.far (by simp) _⟩, HP.out.2.2.2.setCell (by simp) _⟩
              rw [HR.out.2.2.2]
              simpa using HP.out.2.2.1.blk HP.out.1 (by decide) (by decide) 1 _
    · obtain rfl : k = N := by omega
      have hkk := hkeep.out
      have HKK := Lib.hid hkk; clear hkk hkeep
      obtain ⟨⟨HA, RA, hc, rc, hs', b1, b2, b3, b4, b5⟩, b6⟩ := HKK.out
      have g0 := b1.cell 0 (v := .slice HA k hc) rfl
      have g1 := b1.cell 1 (v := .slice RA m rc) rfl
      have r0 := b6.cell 0 (v := .slice none 0 0) rfl
      have r1 := b6.cell 1 (v := .slice none 0 0) rfl
      have z0 := b6.frozen 0
      have z1 := b6.frozen 1
      have HB := Lib.hid (And.intro b2 (And.intro b3 (And.intro b4 (And.intro b5 b6)))); clear b1 b2 b3 b4 b5 b6 HKK
      go_wp2_with fail
      refine bodyPost_ret (results_cell1 rfl _ _ w.heap.size _ _ _ rfl ((HB.out.2.2.2.2.set_ 0 (.slice HA k hc)).set_ 1 (.slice RA m rc)) Try.underlying49 rfl (by kernel_rfl)) rfl ?_
      obtain ⟨e1, e2, e3, e4, e5⟩ := HB.out
      have hsl : s.take k = s := List.take_of_length_le (by have := H.out.2.2.2.2.1; omega)
      rw [hsl] at e1 e2 e4
      have e1' : GrS ((wo.setCell ⟨w.heap.size, 0, none⟩ (.slice HA k hc)).setCell ⟨w.heap.size, 1, none⟩ (.slice RA m rc)) w.heap.size HA hc RA rc hs' (gRoots s) := (e1.blk e5 (by decide) (by decide) _ _).blk (e5.set_ 0 _) (by decide) (by decide) _ _
      have e6 := e1'.at_
      rw [e2] at e6
      exact ⟨HA, RA, hc, rc, m, by rw [H.out.2.2.2.2.1]; rfl, e6, e1'.roots, e4, (hbl.setCell (Nat.le_refl _) _).setCell (Nat.le_refl _) _⟩

set_option maxHeartbeats 800000 in
set_option maxRecDepth 100000 in
theorem hare_any (w : World) (base p : Nat) (F : Nat → Prop) (nu v : Int) (b : Nat) (s : List It) (h : HpG w base F p nu b s) (hs : s.length ≤ 100) :
    Calls Try.prog 160 #[.pointer (some ⟨p, 0, none⟩), .int .i64 v] w fun e w' => ∃ A c, e = .returned (.slice A (are s v).length c) ∧ Own w' w.heap.size 3 A c (are s v) ∧ Below w.heap.size w w' := by
  obtain ⟨i0, hi, hz0, hz1, hz2⟩ := info_parts infoInt
  obtain ⟨A, c, l, h1, h2, h3, h4, h5⟩ := h
  have hl : s.length = l.length := by rw [← h5, its_length]
  obtain ⟨N, hN⟩ : ∃ N, l.length = N := ⟨_, rfl⟩
  rw [hN] at h1 hl
  rw [hl] at hs
  have c2 := h1.cell 1 (v := .slice A N c) rfl
  have H := Lib.hid (And.intro h2 (And.intro h5 (And.intro hl hN))); clear h1 h2 h5 hl hN
  go_enter Try.func160, Try.ntmps160
  go_wp2_with fail
  clear c2
  go_loopg [5, 13] N (fun gk ov iv wr => ∃ (k m : Nat) (A1 : Option Addr) (c1 : Nat), k ≤ N ∧ gk = N - k ∧ iv = .int .i64 k ∧ ov = .slice A1 m c1 ∧ m ≤ k ∧ Hid (Own wr w.heap.size 3 A1 c1 (are (s.take k) v) ∧ (are (s.take k) v).length = m) ∧ Below w.heap.size w wr)
  case atStart => exact ⟨0, 0, none, 0, Nat.zero_le _, rfl, rfl, rfl, Nat.le_refl _, ⟨Own.nil_, rfl⟩, Below.refl _ _⟩
  case round =>
    obtain ⟨k, m, A1, c1, hk, rfl, rfl, rfl, hm, hkeep, hbl⟩ := hrel
    have hsz := hbl.size
    by_cases hlt : k < N
    · obtain ⟨x, hx⟩ : ∃ x, l[k]? = some x := ⟨_, List.getElem?_eq_getElem (by have := H.out.2.2.2; omega)⟩
      obtain ⟨g, rfl, hg1, hg2, q0, q1, q2⟩ := (H.out.1.fresh hbl).cells hx
      have b0 : (0 : Int) ≤ (k : Int) := by omega
      have b1 : (k : Int) < (N : Int) := by omega
      have hsx : s[k]? = some x.it := by rw [← H.out.2.1]; exact its_get hx
      have hsn := are_take s v k x.it hsx
      obtain ⟨y, hy⟩ : ∃ y, x.st = y := ⟨_, rfl⟩
      have hy' : x.it.st = y := hy
      rw [hy] at q1
      rw [hy'] at hsn
      by_cases he : y = v
      · subst he
        rw [if_pos rfl] at hsn
        have HS := Lib.hid (And.intro hsn hkeep.out); clear hsn hx hsx hkeep hy hy'
        go_wp2_with (at_builtin; go_must (refine wpList_app (α := Int) (n := m) (m := 1) (B := wr.heap.size + 1 + 1) (r := [(k : Int)]) rfl (.tmp 22) (.tmp 24) _ rfl w.heap.size 3 i0 _ 8 Try.underlying47 hi hz0 hz1 hz2 rfl (by decide) int_one (by rfl) HS.out.2.2 ((HS.out.2.1.alloc _).alloc _) (by rfl) ?_ rfl (by omega) (by simp only [maxLen]; omega) (by simp; omega) ?_))
        · have := At.built (wr.alloc (.cells #[.slice x.A x.has.length x.c, .int .i64 y, .bool x.held] 206)) #[.int .i64 (k : Int)] 3 [(k : Int)] rfl (by intro z hz; simp at hz; subst hz; exact (by unfold I64; omega : I64 (k : Int)))
          simpa using this
        intro A2 c2 w2 hown2 hgr2 hat2
        have hbl2 : Below w.heap.size w w2 := ((hbl.alloc hsz _).alloc (by simp; omega) _).grown hgr2 (by simp; omega) (fun g hg => (HS.out.2.1.lt g hg).1)
        have HO2 := Lib.hid hown2; clear hown2 hgr2 hat2
        go_wp2_with fail
        go_roundg (N - (k + 1))
        case measure => omega
        case rel => exact ⟨k + 1, m + 1, A2, c2, by omega, rfl, by go_num, rfl, by omega, ⟨by rw [HS.out.1]; exact HO2.out, by rw [HS.out.1, List.length_append, HS.out.2.2]; rfl⟩, hbl2⟩
      · have d0 : (y == v) = false := by simpa using he
        rw [if_neg he, List.append_nil] at hsn
        have HS := Lib.hid (And.intro hsn hkeep.out); clear hsn hx hsx hkeep hy hy' he
        go_wp2_with fail
        go_roundg (N - (k + 1))
        case measure => omega
        case rel => exact ⟨k + 1, m, A1, c1, by omega, rfl, by go_num, rfl, by omega, ⟨by rw [HS.out.1]; exact HS.out.2.1.alloc _, by rw [HS.out.1]; exact HS.out.2.2⟩, hbl.alloc hsz _⟩
    · obtain rfl : N = k := by omega
      have hk2 := hkeep.out
      rw [List.take_of_length_le (by have := H.out.2.2.1; omega)] at hk2
      have HK := Lib.hid hk2; clear hk2 hkeep
      go_wp2_with fail
      go_ret
      exact ⟨A1, c1, by rw [HK.out.2]; rfl, HK.out.1, hbl⟩


set_option maxHeartbeats 1600000 in
set_option maxRecDepth 100000 in
theorem hnamed_any (w : World) (base p B lc n : Nat) (F : Nat → Prop) (nu : Int) (b : Nat) (s : List It) (LA : Option Addr) (ls : List Int) (h : HpG w base F p nu b s) (hf : Fine s) (hl : At w B LA ls) (hB : B ≤ w.heap.size) (hn : ls.length = n) (hn2 : n ≤ 2) :
    Calls Try.prog 188 #[.pointer (some ⟨p, 0, none⟩), .slice LA n lc] w fun e w' => e = .returned (.int .i64 (namedE s ls)) ∧ Below w.heap.size w w' := by
  have HM := Lib.hid h
  obtain ⟨A, c, l, h1, h2, h3, h4, h5⟩ := h
  have hls : s.length = l.length := by rw [← h5, its_length]
  obtain ⟨N, hN⟩ : ∃ N, l.length = N := ⟨_, rfl⟩
  rw [hN] at h1 hls
  have hN100 : N ≤ 100 := by rw [← hls]; exact hf.small
  have c2 := h1.cell 1 (v := .slice A N c) rfl
  have hplt := h1.lt
  have H := Lib.hid (And.intro hl (And.intro hn (And.intro hls hf))); clear hl hn hls hf h1 h2 h3 h5 hN
  go_enter Try.func188, Try.ntmps188
  go_wp2_with fail
  go_loopg [13] n (fun gk iv wr => ∃ (k : Nat), k ≤ n ∧ gk = n - k ∧ iv = .int .i64 k ∧ Hid ((ls.take k).all (inN s.length) = true) ∧ w = wr)
  case atStart => exact ⟨0, Nat.zero_le _, rfl, rfl, by simp [Hid], rfl⟩
  case round =>
    obtain ⟨k, hk, rfl, rfl, hkeep, rfl⟩ := hrel
    by_cases hlt : k < n
    · obtain ⟨b, o, x, rfl, hb, hx, hox, q0⟩ := H.out.1.int_ (k := k) (by have := H.out.2.1; omega)
      have b0 : (0 : Int) ≤ (k : Int) := by omega
      have b1 : (k : Int) < (n : Int) := by omega
      cases hin : inN s.length x with
      | false =>
        have HNM := Lib.hid (namedE_none hx hin)
        by_cases hneg : x < 0
        · have d1 : decide (x < 0) = true := by simpa using hneg
          clear hin hx
          go_wp2_with fail
          go_ret
          exact ⟨by rw [HNM.out]; rfl, Below.refl _ _⟩
        · have hge : (N : Int) ≤ x := by
            have := H.out.2.2.1
            unfold inN at hin
            simp only [Bool.and_eq_false_iff, decide_eq_false_iff_not] at hin
            omega
          clear hin hx
          go_wp2_with fail
          go_ret
          exact ⟨by rw [HNM.out]; rfl, Below.refl _ _⟩
      | true =>
        have hh := inN_iff.1 hin
        have hsn := all_snocM (inN s.length) ls k x hx
        rw [hkeep.out, hin] at hsn
        have hneg : ¬ x < 0 := by omega
        have hge : ¬ (N : Int) ≤ x := by have := H.out.2.2.1; omega
        have HS := Lib.hid hsn; clear hsn hin hx hh
        go_wp2_with fail
        go_roundg (n - (k + 1))
        case measure => omega
        case rel => exact ⟨k + 1, by omega, rfl, by go_num, HS.out, rfl⟩
    · obtain rfl : n = k := by omega
      have hall := hkeep.out
      rw [List.take_of_length_le (by have := H.out.2.1; omega)] at hall
      have HA := Lib.hid hall; clear hall hkeep
      go_wp2_with fail
      refine (hgraph_any w base p F nu b s HM.out H.out.2.2.2.small H.out.2.2.2.long H.out.2.2.2.neg).mono ?_
      rintro e w1 ⟨GA, RA, gc, rc, m, rfl, g1, g2, g3, hb1⟩
      have hs1 := hb1.size
      have hsn : s.length = N := H.out.2.2.1
      rw [hsn]
      have hm100 : m ≤ 100 := by have := gRoots_len s; omega
      have HG := Lib.hid (And.intro g1 (And.intro g2 g3)); clear g1 g2 g3 hsn c2
      go_wp2_with fail
      refine calls_world (fun W => Below w1.heap.size w1 W ∧ w1.heap.size < W.heap.size) ⟨(Below.refl _ _).alloc (Nat.le_refl _) _, by simp⟩ ?_
      rintro W ⟨hW, hsW⟩
      have hgl : (gHas s).length = N := by rw [gHas_length]; exact H.out.2.2.1
      have hsl : (s.map It.held).length ≤ 1000000 := by rw [List.length_map, H.out.2.2.1]; omega
      refine (fromW_any gc rc N m GA RA (gHas s) (gRoots s) W hgl HG.out.2.2 ((HG.out.1.below hW).more (by omega)) ((HG.out.2.1.fresh hW).at_ (rising_I64 _ hsl)) H.out.2.2.2.right H.out.2.2.2.rightL hN100 (by omega) H.out.2.2.2.glen).mono ?_
      rintro e w2 ⟨S, sc, rfl, ho2, hb2⟩
      have hs2 := hb2.size
      have hb : Below w.heap.size w w2 := hb1.trans ((hW.mono hs1).trans (hb2.mono (by omega)))
      have HO := Lib.hid ho2; clear ho2 hgl hsl
      go_wp2_with fail
      go_loopg [37] n (fun gk iv wr => ∃ (k : Nat), k ≤ n ∧ gk = n - k ∧ iv = .int .i64 k ∧ Hid ((ls.take k).all (fun n => (needed s).getD n.toNat false) = true) ∧ w2 = wr)
      case atStart => exact ⟨0, Nat.zero_le _, rfl, rfl, by simp [Hid], rfl⟩
      case round =>
        obtain ⟨k, hk, rfl, rfl, hkeep, rfl⟩ := hrel
        by_cases hlt : k < n
        · obtain ⟨b, o, x, rfl, hbB, hx, hox, q0⟩ := (H.out.1.below (hb.mono hB)).int_ (k := k) (by have := H.out.2.1; omega)
          have hin := inN_iff.1 (List.all_eq_true.1 HA.out x (List.mem_of_getElem? hx))
          obtain ⟨j, rfl⟩ := Int.eq_ofNat_of_zero_le hin.1
          have hj : j < N := by have := H.out.2.2.1; omega
          obtain ⟨v, hv⟩ : ∃ v, (needed s)[j]? = some v := ⟨_, List.getElem?_eq_getElem (by unfold needed; rw [fromL_length, gHas_length]; have := H.out.2.2.1; omega)⟩
          obtain ⟨g, rfl, hgl, hgr⟩ := HO.out.some_ (by rw [fromL_length, gHas_length]; have := H.out.2.2.1; omega)
          have v0 := HO.out.cell_bool hv
          have hgd : (needed s).getD ((j : Int).toNat) false = v := by rw [Int.toNat_natCast, List.getD_eq_getElem?_getD, hv]; rfl
          have b0 : (0 : Int) ≤ (k : Int) := by omega
          have b1 : (k : Int) < (n : Int) := by omega
          have b2 : (0 : Int) ≤ (j : Int) := by omega
          have b3 : (j : Int) < (N : Int) := by omega
          cases v with
          | false =>
            have HNM := Lib.hid (namedE_state HA.out hx hgd)
            clear hin hx hv hgd
            go_wp2_with fail
            go_ret
            exact ⟨by rw [HNM.out]; rfl, hb⟩
          | true =>
            have hsn := all_snocM (fun n => (needed s).getD n.toNat false) ls k _ hx
            rw [hkeep.out, hgd] at hsn
            have HS := Lib.hid hsn; clear hsn hin hx hv hgd
            go_wp2_with fail
            go_roundg (n - (k + 1))
            case measure => omega
            case rel => exact ⟨k + 1, by omega, rfl, by go_num, HS.out, rfl⟩
        · obtain rfl : n = k := by omega
          have hall := hkeep.out
          rw [List.take_of_length_le (by have := H.out.2.1; omega)] at hall
          have HNM := Lib.hid (namedE_ok HA.out hall); clear hall hkeep
          go_wp2_with fail
          go_ret
          exact ⟨by rw [HNM.out]; rfl, hb⟩

end Go.Proofs.Ytpkccpegdpodoaa

/- slices.Contains, slices.ContainsFunc with a method's value; a map is cleared. -/
namespace Go.Proofs.Ytpkccpegdpodoaa
open Go.RowKit Go.Maps Go.ChangeMaps Go.MapKept Go.WideShapes

attribute [local go_sem ↓] Go.wp_at_zero Go.wp_at_succ

theorem any_eqI (l : List Int) (x : Int) : l.any (fun y => y == x) = l.contains x := by
  rw [Bool.eq_iff_iff, List.any_eq_true, List.contains_iff_mem]
  constructor
  · rintro ⟨y, h1, h2⟩
    have : y = x := by simpa using h2
    rw [← this]; exact h1
  · intro h; exact ⟨x, h, by simp⟩

set_option maxHeartbeats 800000 in
set_option maxRecDepth 100000 in
theorem indexInt_any (A : Option Addr) (c B n : Nat) (l : List Int) (x : Int) (w : World) (hn : l.length = n) (h : At w B A l) (hl : n ≤ 9223372036854775807) :
    Calls Try.prog 185 #[.slice A n c, .int .i64 x] w fun e w' => e = .returned (.int .i64 (idxI (fun y => y == x) l)) ∧ w = w' := by
  have H := Lib.hid (And.intro h hn); clear h hn
  go_enter Try.func185, Try.ntmps185
  go_wp2
  go_loopg [8] n (fun gk i wr => ∃ k : Nat, k ≤ n ∧ gk = n - k ∧ i = .int .i64 k ∧ Hid ((l.take k).any (fun y => y == x) = false) ∧ w = wr)
  case atStart => exact ⟨0, Nat.zero_le _, rfl, rfl, by simp [Hid], rfl⟩
  case round =>
    obtain ⟨k, hk, rfl, rfl, hno, rfl⟩ := hrel
    by_cases hlt : k < n
    · obtain ⟨b, o, y, rfl, hb, hx, hox, h0⟩ := H.out.1.int_ (k := k) (by have := H.out.2; omega)
      have hk0 : (0 : Int) ≤ (k : Int) := by omega
      have hk1 : (k : Int) < (n : Int) := by omega
      by_cases hq : x = y
      · subst hq
        have HX := Lib.hid hx; clear hx
        go_wp2
        go_ret
        exact ⟨by rw [idxI_hit (fun y => y == x) l k x HX.out (by simp) hno.out]; rfl, rfl⟩
      · have d0 : (x == y) = false := by simpa using hq
        have d1 : (y == x) = false := by simpa using fun e : y = x => hq e.symm
        have HX := Lib.hid (And.intro hx d1); clear hx d1 hq
        go_wp2
        go_roundg (n - (k + 1))
        case measure => omega
        case rel => exact ⟨k + 1, by omega, rfl, by go_num, by unfold Hid; rw [any_snocI _ _ _ _ HX.out.1, hno.out, HX.out.2]; rfl, rfl⟩
    · go_wp2
      go_ret
      exact ⟨by have h1 := hno.out; rw [List.take_of_length_le (by have := H.out.2; omega)] at h1; unfold idxI; rw [h1]; rfl, rfl⟩

set_option maxRecDepth 100000 in
theorem containsInt_any (A : Option Addr) (c B n : Nat) (l : List Int) (x : Int) (w : World) (hn : l.length = n) (h : At w B A l) (hl : n ≤ 9223372036854775807) :
    Calls Try.prog 153 #[.slice A n c, .int .i64 x] w fun e w' => e = .returned (.bool (l.contains x)) ∧ w = w' := by
  have hc := any_eqI l x
  have hcall := indexInt_any A c B n l x w hn h hl
  obtain ⟨r, hr⟩ : ∃ r, idxI (fun y => y == x) l = r := ⟨_, rfl⟩
  have hge : decide (r ≥ 0) = l.contains x := by
    rw [← hr, ← hc]
    unfold idxI
    cases l.any fun y => y == x <;> simp
  rw [hr] at hcall
  have HC := Lib.hid hcall; clear hcall h hn hc
  have HG := Lib.hid hge; clear hge hr
  go_enter Try.func153, Try.ntmps153
  go_wp2_with fail
  refine HC.out.mono ?_
  rintro e w1 ⟨rfl, rfl⟩
  go_wp2_with fail
  go_ret
  exact ⟨by rw [← HG.out]; rfl, rfl⟩

/-- a method's value as a predicate: it only reads -/
def PredM (P : Program) (g : Nat) (rv : Value) (p : Int → Bool) (l : List Int) (w : World) : Prop :=
  ∀ x : Int, x ∈ l → Calls P g #[rv, iv x] w fun e W' => e = .returned (.bool (p x)) ∧ w = W'

set_option maxHeartbeats 800000 in
set_option maxRecDepth 100000 in
theorem indexFuncM_any (A : Option Addr) (c B g n : Nat) (rv : Value) (p : Int → Bool) (l : List Int) (w : World) (hn : l.length = n) (h : At w B A l) (hl : n ≤ 9223372036854775807)
    (eg : ∀ args w, (callFunc g args).run Try.prog w = .ok (.enter g args) w) (hp : PredM Try.prog g rv p l w) :
    Calls Try.prog 181 #[.slice A n c, .func (.func g) #[rv] #[]] w fun e w' => e = .returned (.int .i64 (idxI p l)) ∧ w = w' := by
  have H := Lib.hid (And.intro h hn); clear h hn
  have HP := Lib.hid hp; clear hp
  have HE := Lib.hid eg
  go_enter Try.func181, Try.ntmps181
  go_wp2
  go_loopg [8] n (fun gk i wr => ∃ k : Nat, k ≤ n ∧ gk = n - k ∧ i = .int .i64 k ∧ Hid ((l.take k).any p = false) ∧ w = wr)
  case atStart => exact ⟨0, Nat.zero_le _, rfl, rfl, by simp [Hid], rfl⟩
  case round =>
    obtain ⟨k, hk, rfl, rfl, hno, rfl⟩ := hrel
    by_cases hlt : k < n
    · obtain ⟨b, o, x, rfl, hb, hx, hox, h0⟩ := H.out.1.int_ (k := k) (by have := H.out.2; omega)
      have hk0 : (0 : Int) ≤ (k : Int) := by omega
      have hk1 : (k : Int) < (n : Int) := by omega
      have hcall := HP.out x (List.mem_of_getElem? hx)
      have HX := Lib.hid hx; clear hx
      cases hq : p x with
      | true =>
        rw [hq] at hcall
        have HC := Lib.hid hcall; clear hcall
        have HQ := Lib.hid hq; clear hq
        go_wp2_with (go_at_fn g; refine Calls.mono HC.out ?_; rintro e w' ⟨rfl, rfl⟩)
        go_ret
        exact ⟨by rw [idxI_hit p l k x HX.out HQ.out hno.out]; rfl, rfl⟩
      | false =>
        rw [hq] at hcall
        have HC := Lib.hid hcall; clear hcall
        have HQ := Lib.hid hq; clear hq
        go_wp2_with (go_at_fn g; refine Calls.mono HC.out ?_; rintro e w' ⟨rfl, rfl⟩)
        go_roundg (n - (k + 1))
        case measure => omega
        case rel => exact ⟨k + 1, by omega, rfl, by go_num, by unfold Hid; rw [any_snocI _ _ _ _ HX.out, hno.out, HQ.out]; rfl, rfl⟩
    · go_wp2
      go_ret
      exact ⟨by have h1 := hno.out; rw [List.take_of_length_le (by have := H.out.2; omega)] at h1; unfold idxI; rw [h1]; rfl, rfl⟩

set_option maxRecDepth 100000 in
theorem containsFuncM_any (A : Option Addr) (c B g n : Nat) (rv : Value) (p : Int → Bool) (l : List Int) (w : World) (hn : l.length = n) (h : At w B A l) (hl : n ≤ 9223372036854775807)
    (eg : ∀ args w, (callFunc g args).run Try.prog w = .ok (.enter g args) w) (hp : PredM Try.prog g rv p l w) :
    Calls Try.prog 150 #[.slice A n c, .func (.func g) #[rv] #[]] w fun e w' => e = .returned (.bool (l.any p)) ∧ w = w' := by
  have hcall := indexFuncM_any A c B g n rv p l w hn h hl eg hp
  obtain ⟨r, hr⟩ : ∃ r, idxI p l = r := ⟨_, rfl⟩
  have hge : decide (r ≥ 0) = l.any p := by
    rw [← hr]
    unfold idxI
    cases l.any p <;> simp
  rw [hr] at hcall
  have HC := Lib.hid hcall; clear hcall h hn hp eg
  have HG := Lib.hid hge; clear hge hr
  go_enter Try.func150, Try.ntmps150
  go_wp2_with fail
  refine HC.out.mono ?_
  rintro e w1 ⟨rfl, rfl⟩
  go_wp2_with fail
  go_ret
  exact ⟨by rw [← HG.out]; rfl, rfl⟩

/-! ### a map is cleared -/
theorem Set_.clear {w : World} {b n : Nat} {D : DataW Unit} (h : Set_ w b n D) (t k e ty : TypeId) (ht : Try.prog.underlying t = some (.map k e)) :
    ∃ w', (Builtin.clear_ #[t] ty #[.map (some b)]).run Try.prog w = .ok (.tuple #[]) w' ∧ Set_ w' b 0 (.map []) ∧ w.grownBy w' (some b) := by
  obtain ⟨es, clock, hb, F, r1, r2⟩ := h
  have hlt : b < w.heap.size := (Array.getElem?_eq_some_iff.1 hb).1
  have hturn : w.mapTurned (setBlock w b (.map #[] clock)) b := ⟨es, clock, #[], clock, hb, rfl⟩
  refine ⟨setBlock w b (.map #[] clock), ?_, ⟨#[], clock, ?_, ?_, by simp, by simp⟩, hturn.grown⟩
  · simp [Builtin.clear_, run_underlying ht, Go.MapKept.run_getObj_map hb, Go.MapKept.run_setObj_map _ hb, Result.andThen]; rfl
  · simp [setBlock, Array.getElem?_setIfInBounds, hlt]
  · exact ⟨by simp, ⟨by simp, by simp, by simp⟩, by simp⟩

theorem wpList_clear_set {w : World} {b n : Nat} {D : DataW Unit} {ops : Array Oper} {rest : List Oper} {o : Oper} {a : Act} {Q : Exit → Act → World → Prop} (hgd : o.guard = none) (x : Operand) (t k e : TypeId)
    (ho : o.op = .call { callee := .builtin .clear, args := #[x], argTypes := #[t] }) (ht : Try.prog.underlying t = some (.map k e)) (h : Set_ w b n D) (hx : a.eval x = .map (some b))
    (hK : ∀ w', Set_ w' b 0 (.map []) → w.grownBy w' (some b) → wpList Try.prog ops Q rest (a.put o.dst (.tuple #[])) w') : wpList Try.prog ops Q (o :: rest) a w := by
  refine wpList_plain hgd fun K hK' => ?_
  obtain ⟨w', hrun, h2, h3⟩ := h.clear t k e o.type ht
  unfold Oper.wp execOp
  simp only [ho, resolve, invoke, builtin, Sem.run_bind, Sem.run_pure, Result.andThen_ok, List.map_toArray, List.map_cons, List.map_nil, hx, hrun]
  exact hK' _ _ (hK w' h2 h3)

end Go.Proofs.Ytpkccpegdpodoaa
