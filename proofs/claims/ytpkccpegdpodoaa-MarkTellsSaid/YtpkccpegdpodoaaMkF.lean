/- R.Model: shade; what is wrong with a deed that makes. mark: make. R.Model: more. -/
import Derived.Test.YtpkccpegdpodoaaMkE
import Derived.Test.YtpkccpegdpodoaaRept
import Derived.Test.YtpkccpegdpodoaaMarkO
import Derived.BigRegion
import Derived.Outline
namespace Go.Proofs.Ytpkccpegdpodoaa
open Go.RowKit

attribute [local go_sem ↓] Go.wp_at_zero Go.wp_at_succ

set_option maxHeartbeats 800000 in
set_option maxRecDepth 100000 in
theorem rshadeL_any (w : World) (base p : Nat) (F : Nat → Prop) (nu kind n : Int) (mk : Bool) (A : Option Addr) (c : Nat) (s : List It) (l : List ItR) (h : MdlL w base F p nu kind mk A c s l) (hn : n = -1 ∨ ∃ m : Nat, n = (m : Int) ∧ m < s.length) (hs : s.length ≤ 1000) :
    Calls Try.prog 131 #[.pointer (some ⟨p, 0, none⟩), .int .i64 n] w fun e w' => e = .returned (.tuple #[]) ∧ (∃ l', MdlL w' base F p nu kind mk A c (shadeI mk n s) l' ∧ SameA l l') ∧ Touch F w w' ∧ IntKeep w w' ∧ w'.heap.size = w.heap.size := by
  have H := Lib.hid h
  obtain ⟨h1, h2, h3, h4, h5⟩ := h
  have c1 := h1.cell 3 (v := .bool mk) rfl
  have c2 := h1.cell 0 (v := .slice A l.length c) rfl
  have HS := Lib.hid h5
  rcases hn with rfl | ⟨m, rfl, hm⟩
  · have e1 : shadeI mk (-1) s = s := if_neg (by rintro ⟨-, h, -⟩; omega)
    rw [e1]
    clear h1 h2 h5 e1
    cases mk
    all_goals
      go_enter Try.func131, Try.ntmps131
      go_wp2
      go_end0
      exact ⟨rfl, ⟨l, H.out, SameA.refl l⟩, Touch.refl _ _, IntKeep.refl _, rfl⟩
  · rw [← h5, its_length] at hm
    rw [← h5, its_length] at hs
    obtain ⟨x, hx⟩ : ∃ x, l[m]? = some x := ⟨_, List.getElem?_eq_getElem hm⟩
    obtain ⟨g, rfl, hg1, hg2, q0, q1, q2⟩ := h2.cells hx
    have hst : stAt s m = some x.st := by rw [← h5]; exact stAt_get (its_get hx)
    have b0 : (0 : Int) ≤ (m : Int) := by omega
    have d9 : ((m : Int) != -1) = true := by simp
    have b1 : (m : Int) < (l.length : Int) := by omega
    have hne : g ≠ p := fun e => own_ne_ty h2.row h1 (by decide) (by rw [e]; rfl)
    have z1 := h2.row.frozen (g := g) rfl (m * 3 + 1)
    have hgF := h2.foot g rfl
    have hset := h2.setSt hx (by decide) 1 (by unfold I64; omega)
    have hblk := h1.far (p := ⟨g, m * 3 + 1, none⟩) (fun e => hne e.symm) (.int .i64 1)
    have hits := its_set l m x { x with st := 1 } (It.setst 1) hx rfl
    rw [h5] at hits
    obtain ⟨v, hv⟩ : ∃ v, x.st = v := ⟨_, rfl⟩
    rw [hv] at hst q1
    have hln : (l.set m { x with st := 1 }).length = l.length := List.length_set
    have hik := IntKeep.set h2.row (by decide) (m * 3 + 1) (.int .i64 1)
    have hsa := SameA.set (y := { x with st := 1 }) hx rfl rfl
    have HB := Lib.hid (And.intro hset (And.intro hblk (And.intro hits (And.intro hst (And.intro hln (And.intro hik hsa))))))
    clear h1 h2 h5 hx q0 q2 hst hset hblk hits hv hln hik hsa
    by_cases hc : mk = true ∧ v = 0
    · obtain ⟨rfl, rfl⟩ := hc
      go_enter Try.func131, Try.ntmps131
      go_wp2
      go_end0
      obtain ⟨k1, k2, k3, k4, k5, k6, k7⟩ := HB.out
      have e1 : shadeI true (m : Int) s = s.modify m (It.setst 1) := by unfold shadeI; rw [if_pos ⟨rfl, by omega, by simpa using k4⟩]; simp
      rw [e1]
      exact ⟨rfl, ⟨_, ⟨by rw [k5]; exact k2, k1, h3, h4, k3⟩, k7⟩, (Touch.refl _ _).setCell hgF _, k6, by simp [World.setCell]⟩
    · have e1 : shadeI mk (m : Int) s = s := if_neg (by rintro ⟨h, -, h'⟩; exact hc ⟨h, by rw [Int.toNat_natCast, HB.out.2.2.2.1] at h'; injection h'⟩)
      rw [e1]
      have HC := Lib.hid e1; clear e1
      cases mk with
      | false =>
        clear hc
        go_enter Try.func131, Try.ntmps131
        go_wp2
        go_end0
        exact ⟨rfl, ⟨l, H.out, SameA.refl l⟩, Touch.refl _ _, IntKeep.refl _, rfl⟩
      | true =>
        have d0 : (v == 0) = false := by simp at hc; simpa using hc
        clear hc
        go_enter Try.func131, Try.ntmps131
        go_wp2
        go_end0
        exact ⟨rfl, ⟨l, H.out, SameA.refl l⟩, Touch.refl _ _, IntKeep.refl _, rfl⟩
theorem rshadeA_any (w : World) (base p : Nat) (F : Nat → Prop) (nu kind n : Int) (mk : Bool) (A : Option Addr) (c : Nat) (s : List It) (h : MdlA w base F p nu kind mk A c s) (hn : n = -1 ∨ ∃ m : Nat, n = (m : Int) ∧ m < s.length) (hs : s.length ≤ 1000) :
    Calls Try.prog 131 #[.pointer (some ⟨p, 0, none⟩), .int .i64 n] w fun e w' => e = .returned (.tuple #[]) ∧ MdlA w' base F p nu kind mk A c (shadeI mk n s) ∧ Touch F w w' ∧ IntKeep w w' ∧ w'.heap.size = w.heap.size := by
  obtain ⟨l, h⟩ := h
  exact (rshadeL_any w base p F nu kind n mk A c s l h hn hs).mono fun e w' ⟨h1, ⟨l', h2, _⟩, h3⟩ => ⟨h1, ⟨l', h2⟩, h3⟩
theorem rshade_any (w : World) (base p : Nat) (F : Nat → Prop) (nu kind n : Int) (mk : Bool) (s : List It) (h : Mdl w base F p nu kind mk s) (hn : n = -1 ∨ ∃ m : Nat, n = (m : Int) ∧ m < s.length) (hs : s.length ≤ 1000) :
    Calls Try.prog 131 #[.pointer (some ⟨p, 0, none⟩), .int .i64 n] w fun e w' => e = .returned (.tuple #[]) ∧ Mdl w' base F p nu kind mk (shadeI mk n s) ∧ Touch F w w' ∧ IntKeep w w' ∧ w'.heap.size = w.heap.size := by
  obtain ⟨A, c, h⟩ := h
  exact (rshadeA_any w base p F nu kind n mk A c s h hn hs).mono fun e w' ⟨h1, h2, h3⟩ => ⟨h1, ⟨A, c, h2⟩, h3⟩


def ddV (d : Dd) : Value := .agg #[.int .i64 d.dd, .int .i64 d.a, .int .i64 d.b, .int .i64 d.n]

set_option maxHeartbeats 800000 in
set_option maxRecDepth 100000 in
theorem newFault_any (w : World) (base p : Nat) (F : Nat → Prop) (nu kind dd a b n : Int) (mk : Bool) (s : List It) (h : Mdl w base F p nu kind mk s) (hs : s.length ≤ 1000) :
    Calls Try.prog 128 #[.pointer (some ⟨p, 0, none⟩), .agg #[.int .i64 dd, .int .i64 a, .int .i64 b, .int .i64 n]] w fun e w' => e = .returned (.int .i64 (newE s n)) ∧ Below w.heap.size w w' := by
  obtain ⟨A, c, l, h1, h2, h3, h4, h5⟩ := h
  have hl : s.length = l.length := by rw [← h5, its_length]
  have c0 := h1.cell 0 (v := .slice A l.length c) rfl
  have hplt := h1.lt
  rw [hl] at hs
  have HL := Lib.hid hl; clear h1 h2 h3 h5 hl
  by_cases h1 : n < 0
  · have HE := Lib.hid (show newE s n = 1 from if_pos (.inl h1))
    go_enter Try.func128, Try.ntmps128
    go_wp2
    go_ret
    exact ⟨by rw [HE.out]; rfl, (Below.refl _ _).alloc (Nat.le_refl _) _⟩
  · by_cases h2 : 10 < n
    · have HE := Lib.hid (show newE s n = 1 from if_pos (.inr h2))
      go_enter Try.func128, Try.ntmps128
      go_wp2
      go_ret
      exact ⟨by rw [HE.out]; rfl, (Below.refl _ _).alloc (Nat.le_refl _) _⟩
    · by_cases h3 : 100 ≤ l.length
      · have HE := Lib.hid (show newE s n = 2 by unfold newE; rw [if_neg (by omega), if_pos (by rw [HL.out]; exact h3)])
        go_enter Try.func128, Try.ntmps128
        go_wp2
        go_ret
        exact ⟨by rw [HE.out]; rfl, (Below.refl _ _).alloc (Nat.le_refl _) _⟩
      · have HE := Lib.hid (show newE s n = 0 by unfold newE; rw [if_neg (by omega), if_neg (by rw [HL.out]; exact h3)])
        have h3' : l.length < 100 := by omega
        go_enter Try.func128, Try.ntmps128
        go_wp2
        go_ret
        exact ⟨by rw [HE.out]; rfl, (Below.refl _ _).alloc (Nat.le_refl _) _⟩

theorem make_no (w : World) (base p : Nat) (F : Nat → Prop) (kind n : Int) (mk : Bool) (s : List It) (h : Mkr w base F p kind mk s) (hs : s.length ≤ 1000) (he : newE s n ≠ 0) :
    Calls Try.prog 122 #[.pointer (some ⟨p, 0, none⟩), .int .i64 n] w fun e w' => e = .returned (.tuple #[.int .i64 0, .int .i64 (newE s n)]) ∧ w = w' := by
  obtain ⟨A, c, l, h1, h2, h3, h4, h5⟩ := h
  have hl : s.length = l.length := by rw [← h5, its_length]
  have c0 := h1.cell 2 (v := .slice A l.length c) rfl
  rw [hl] at hs
  have HL := Lib.hid (And.intro hl he); clear h1 h2 h3 h5 hl he
  by_cases h1 : n < 0
  · have HE := Lib.hid (show newE s n = 1 from if_pos (.inl h1))
    go_enter Try.func122, Try.ntmps122
    go_wp2
    go_ret2
    exact ⟨by rw [HE.out]; rfl, rfl⟩
  · by_cases h2 : 10 < n
    · have HE := Lib.hid (show newE s n = 1 from if_pos (.inr h2))
      go_enter Try.func122, Try.ntmps122
      go_wp2
      go_ret2
      exact ⟨by rw [HE.out]; rfl, rfl⟩
    · have h3 : 100 ≤ l.length := by
        have := HL.out.2
        unfold newE at this
        rw [if_neg (by omega)] at this
        have hq := HL.out.1
        split at this <;> omega
      have HE := Lib.hid (show newE s n = 2 by unfold newE; rw [if_neg (by omega), if_pos (by rw [HL.out.1]; exact h3)])
      go_enter Try.func122, Try.ntmps122
      go_wp2
      go_ret2
      exact ⟨by rw [HE.out]; rfl, rfl⟩

theorem infoThing : (Try.prog.info? 187).map (fun i => (i.zero, i.size, i.bytes)) = some (some (.agg #[.slice none 0 0, .int .i64 0, .bool false]), 3, 40) := by kernel_rfl
theorem infoItem : (Try.prog.info? 104).map (fun i => (i.zero, i.size, i.bytes)) = some (some (.agg #[.slice none 0 0, .int .i64 0, .bool false]), 3, 40) := by kernel_rfl
theorem newE_ok {s : List It} {n : Int} (h : newE s n = 0) : 0 ≤ n ∧ n ≤ 10 ∧ s.length < 100 := by
  unfold newE at h
  split at h
  · cases h
  · split at h
    · cases h
    · omega

set_option maxHeartbeats 1600000 in
set_option maxRecDepth 100000 in
theorem make_yes (w : World) (base p : Nat) (F : Nat → Prop) (kind n : Int) (mk : Bool) (s : List It) (h : Mkr w base F p kind mk s) (hF : ∀ g, F g → g < w.heap.size) (he : newE s n = 0) :
    Calls Try.prog 122 #[.pointer (some ⟨p, 0, none⟩), .int .i64 n] w fun e w' => e = .returned (.tuple #[.int .i64 s.length, .int .i64 0]) ∧ Mkr w' base (Up F w w') p kind mk (s ++ [newI (if mk = true then 2 else 0) n]) ∧ Touch F w w' := by
  obtain ⟨i0, hi, hz0, hz1, hz2⟩ := info_parts infoThing
  obtain ⟨A, c, l, h1, h2, h3, h4, h5⟩ := h
  have hl : s.length = l.length := by rw [← h5, its_length]
  obtain ⟨e1, e2, e3⟩ := newE_ok he
  rw [hl] at e3 ⊢
  obtain ⟨j, rfl⟩ := Int.eq_ofNat_of_zero_le e1
  obtain ⟨L, hL⟩ : ∃ L, l.length = L := ⟨_, rfl⟩
  rw [hL] at h1 e3 ⊢
  have c0 := h1.cell 2 (v := .slice A L c) rfl
  have c1 := h1.cell 1 (v := .bool mk) rfl
  have hplt := h1.lt
  have d1 : ¬ (j : Int) < 0 := by omega
  have d2 : ¬ (10 : Int) < (j : Int) := by omega
  have d3 : ¬ (100 : Int) ≤ (L : Int) := by omega
  obtain ⟨st, hst⟩ : ∃ st : Int, (if mk = true then 2 else 0) = st := ⟨_, rfl⟩
  rw [hst]
  have hst2 : I64 st := by rw [← hst]; unfold I64; split <;> omega
  have HST := Lib.hid (And.intro hst2 hst); clear hst2 hst
  have hbase : base ≤ w.heap.size := by omega
  have H := Lib.hid (And.intro h1 (And.intro h2 (And.intro h3 (And.intro h5 (And.intro hF hL))))); clear h1 h2 h3 h5 hF hL hl he
  go_enter Try.func122, Try.ntmps122
  go_wp2_with fail
  refine calls_world (fun V => V = w.alloc (.cells #[.int .i64 (-1)] 3)) rfl ?_
  rintro V hV
  have hAt : At V V.heap.size (some ⟨w.heap.size, 0, none⟩) [(-1 : Int)] := by
    rw [hV]
    have := At.built w #[.int .i64 (-1)] 3 [(-1 : Int)] rfl (by intro z hz; simp at hz; subst hz; exact (by unfold I64; omega : I64 (-1)))
    exact this.more (by simp)
  have hVs : V.heap.size = w.heap.size + 1 := by rw [hV]; simp
  have hbV : Below w.heap.size w V := by rw [hV]; exact (Below.refl _ _).alloc (Nat.le_refl _) _
  clear hV
  refine (repeatInt_any (some ⟨w.heap.size, 0, none⟩) 1 V.heap.size j (-1) V hAt (Nat.le_refl _) (Nat.le_refl _) (by omega)).mono ?_
  rintro e w1 ⟨rfl, ho1, hb1⟩
  have hs1 := hb1.size
  have hR := (ho1.lt V.heap.size rfl).2
  have hb : Below w.heap.size w w1 := hbV.trans (hb1.mono (by omega))
  rw [hVs] at ho1 hR
  rw [hVs]
  have H1 := Lib.hid (And.intro ho1 (And.intro (H.out.1.fresh hb) (And.intro (H.out.2.1.fresh hb) hb))); clear ho1 hb1 hbV hAt hb hVs c0 c1
  have c0 := H1.out.2.1.cell 2 (v := .slice A L c) rfl
  have c1 := H1.out.2.1.cell 1 (v := .bool mk) rfl
  have hp1 := H1.out.2.1.lt
  rcases Bool.eq_false_or_eq_true mk with hmk | hmk
  all_goals
    rw [hmk] at c1
    have hst := HST.out.2
    rw [hmk] at hst
    have HMK := Lib.hid (And.intro hmk hst); clear hmk hst
    go_wp2_with fail
    have hst := HMK.out.2
    refine wp_world (fun W => Blk W p 182 #[.int .i64 kind, .bool mk, .slice A L c] ∧ Its W base F 187 A c l ∧ Blk W w1.heap.size 187 #[.slice (some ⟨w.heap.size + 1, 0, none⟩) j j, .int .i64 st, .bool true] ∧ Own W (w.heap.size + 1) 3 (some ⟨w.heap.size + 1, 0, none⟩) j (List.replicate j (-1)) ∧ Below w.heap.size w W ∧ w1.heap.size < W.heap.size) ⟨H1.out.2.1.alloc _, H1.out.2.2.1.alloc _, by first | (rw [← hst]; exact Blk.new _ _ _), H1.out.1.alloc _, H1.out.2.2.2.alloc (by omega) _, by simp⟩ ?_
    rintro W hW
    have c0 := hW.1.cell 2 (v := .slice A L c) rfl
    have x0 := hW.2.2.1.cell 0 (v := .slice (some ⟨w.heap.size + 1, 0, none⟩) j j) rfl
    have x1 := hW.2.2.1.cell 1 (v := .int .i64 st) rfl
    have x2 := hW.2.2.1.cell 2 (v := .bool true) rfl
    have hsW := hW.2.2.2.2.2
    have y0 : (W.alloc (.cells #[.slice (some ⟨w.heap.size + 1, 0, none⟩) j j, .int .i64 st, .bool true] 187)).cell? ⟨w1.heap.size, 0, none⟩ = some (.slice (some ⟨w.heap.size + 1, 0, none⟩) j j) := (World.cell?_alloc_lt _ _ _ (by simp; omega)).trans x0
    have y1 : (W.alloc (.cells #[.slice (some ⟨w.heap.size + 1, 0, none⟩) j j, .int .i64 st, .bool true] 187)).cell? ⟨w1.heap.size, 1, none⟩ = some (.int .i64 st) := (World.cell?_alloc_lt _ _ _ (by simp; omega)).trans x1
    have y2 : (W.alloc (.cells #[.slice (some ⟨w.heap.size + 1, 0, none⟩) j j, .int .i64 st, .bool true] 187)).cell? ⟨w1.heap.size, 2, none⟩ = some (.bool true) := (World.cell?_alloc_lt _ _ _ (by simp; omega)).trans x2
    have yc : (W.alloc (.cells #[.slice (some ⟨w.heap.size + 1, 0, none⟩) j j, .int .i64 st, .bool true] 187)).cell? ⟨p, 2, none⟩ = some (.slice A L c) := (World.cell?_alloc_lt _ _ _ (by simp; omega)).trans c0
    have HW := Lib.hid hW; clear hW hst
    refine wp_region_held_drew (S := (fun w' => w'.cell? ⟨w1.heap.size, 0, none⟩ = some (.slice (some ⟨w.heap.size + 1, 0, none⟩) j j) ∧ w'.cell? ⟨w1.heap.size, 1, none⟩ = some (.int .i64 st) ∧ w'.cell? ⟨w1.heap.size, 2, none⟩ = some (.bool true))) (by kernel_rfl) ?_ (fun hHeld0 => ?_)
    · first | trivial | ((try dsimp only); (exact ⟨x0, x1, x2⟩))
    refine held_take (v := ?_) 0 rfl (by kernel_rfl) (by kernel_rfl) (by kernel_rfl) (fun _ _ _ h => h) (by rfl) ?_ (by assumption) ?_
    rotate_left
    · (intro w hSw; (try dsimp only at hSw); go_simp; try with_reducible rfl)
    try simp only [Act.put, List.setIfInBounds_toArray, List.set_cons_zero, List.set_cons_succ]
    refine held_take (v := ?_) 1 rfl (by kernel_rfl) (by kernel_rfl) (by kernel_rfl) (fun _ _ _ h => h) (by rfl) ?_ (by assumption) ?_
    rotate_left
    · (intro w hSw; (try dsimp only at hSw); go_simp; try with_reducible rfl)
    try simp only [Act.put, List.setIfInBounds_toArray, List.set_cons_zero, List.set_cons_succ]
    refine held_take (v := ?_) 2 rfl (by kernel_rfl) (by kernel_rfl) (by kernel_rfl) (fun _ _ _ h => h) (by rfl) ?_ (by assumption) ?_
    rotate_left
    · (intro w hSw; (try dsimp only at hSw); go_simp; try with_reducible rfl)
    try simp only [Act.put, List.setIfInBounds_toArray, List.set_cons_zero, List.set_cons_succ]
    refine held_take (v := ?_) 3 rfl (by kernel_rfl) (by kernel_rfl) (by kernel_rfl) (fun _ _ _ h => h) (by rfl) ?_ (by assumption) ?_
    rotate_left
    · (intro w hSw; (try dsimp only at hSw); go_simp; try with_reducible rfl)
    try simp only [Act.put, List.setIfInBounds_toArray, List.set_cons_zero, List.set_cons_succ]
    refine held_take (v := ?_) 5 rfl (by kernel_rfl) (by kernel_rfl) (by kernel_rfl) (fun _ _ _ h => h) (by rfl) ?_ (by assumption) ?_
    rotate_left
    · (intro w hSw; (try dsimp only at hSw); go_simp; try with_reducible rfl)
    try simp only [Act.put, List.setIfInBounds_toArray, List.set_cons_zero, List.set_cons_succ]
    refine held_call2 4 6 (by kernel_rfl) rfl rfl (fun K hK => ?_) (fun K hK => ?_)
    · go_simp
      skip
      refine hK.out _ _ ?_ (fun hHeld1 => ?_)
      · first | trivial | ((try dsimp only); (exact ⟨x0, x1, x2⟩))
      clear hK K hHeld0
      try simp only [Act.put, List.setIfInBounds_toArray, List.set_cons_zero, List.set_cons_succ]
      refine held_call 6 (by kernel_rfl) rfl (fun K hK => ?_)
      go_simp
      skip
      refine hK.out _ _ ?_ (fun hHeld2 => ?_)
      · first | trivial | ((try dsimp only); (exact ⟨y0, y1, y2⟩))
      clear hK K hHeld1
      try simp only [Act.put, List.setIfInBounds_toArray, List.set_cons_zero, List.set_cons_succ]
      refine held_call 7 (by kernel_rfl) rfl (fun K hK => ?_)
      refine step_app (α := ItR) (n := L) (m := 1) (nm := L + 1) (r := [⟨some ⟨w.heap.size + 1, 0, none⟩, j, List.replicate j (-1), st, true⟩]) (by rfl) (.tmp 34) (.tmp 36) _ (by rfl) base 187 i0 _ 40 Try.underlying180 hi hz0 hz1 hz2 rfl (by decide) itr_one (by rfl) H.out.2.2.2.2.2 ((HW.out.2.1.row.alloc (.cells #[.slice (some ⟨w.heap.size + 1, 0, none⟩) j j, .int .i64 st, .bool true] 187)).drew) (B := W.heap.size + 1) (X := some ⟨W.heap.size, 0, none⟩) (d := 1) (by rfl) ((At.built W #[.slice (some ⟨w.heap.size + 1, 0, none⟩) j j, .int .i64 st, .bool true] 187 [(⟨some ⟨w.heap.size + 1, 0, none⟩, j, List.replicate j (-1), st, true⟩ : ItR)] (by simp [flat, Flat.cells]) (fun _ _ => trivial)).drew) rfl rfl (by omega) (by simp only [maxLen]; omega) (by simp; omega) ?_; intro A3 c3 w3 ho3 hgr3 hat3; have hs3 := hgr3.size; simp only [World.size_alloc, World.size_drew] at hs3; have n1 := ((HW.out.1.alloc (.cells #[.slice (some ⟨w.heap.size + 1, 0, none⟩) j j, .int .i64 st, .bool true] 187)).drew).grown hgr3 (fun e => own_ne_ty ((HW.out.2.1.row.alloc (.cells #[.slice (some ⟨w.heap.size + 1, 0, none⟩) j j, .int .i64 st, .bool true] 187)).drew) ((HW.out.1.alloc (.cells #[.slice (some ⟨w.heap.size + 1, 0, none⟩) j j, .int .i64 st, .bool true] 187)).drew) (by decide) e); have n2 := ((HW.out.2.2.1.alloc (.cells #[.slice (some ⟨w.heap.size + 1, 0, none⟩) j j, .int .i64 st, .bool true] 187)).drew).grown hgr3 (fun e => by have := H.out.2.2.2.2.1 _ (HW.out.2.1.foot _ e); omega); have m0 := n2.cell 0 (v := .slice (some ⟨w.heap.size + 1, 0, none⟩) j j) rfl; have m1 := n2.cell 1 (v := .int .i64 st) rfl; have m2 := n2.cell 2 (v := .bool true) rfl; have z2 := n1.frozen 2; have mc := n1.cell 2 (v := .slice A L c) rfl
      refine hK.out _ _ ?_ (fun hHeld3 => ?_)
      · first | trivial | ((try dsimp only); (exact ⟨m0, m1, m2⟩))
      clear hK K hHeld2
      try simp only [Act.put, List.setIfInBounds_toArray, List.set_cons_zero, List.set_cons_succ]
      refine held_take (v := ?_) 8 rfl (by kernel_rfl) (by kernel_rfl) (by kernel_rfl) (fun _ _ _ h => h) (by rfl) ?_ (by assumption) ?_
      rotate_left
      · (intro w hSw; (try dsimp only at hSw); go_simp; try with_reducible rfl)
      try simp only [Act.put, List.setIfInBounds_toArray, List.set_cons_zero, List.set_cons_succ]
      refine held_take (v := ?_) 9 rfl (by kernel_rfl) (by kernel_rfl) (by kernel_rfl) (fun _ _ _ h => h) (by rfl) ?_ (by assumption) ?_
      rotate_left
      · (intro w hSw; (try dsimp only at hSw); go_simp; try with_reducible rfl)
      try simp only [Act.put, List.setIfInBounds_toArray, List.set_cons_zero, List.set_cons_succ]
      refine held_call 10 (by kernel_rfl) rfl (fun K hK => ?_)
      go_simp
      skip
      refine hK.out _ _ ?_ (fun hHeld4 => ?_)
      · first | trivial | ((try dsimp only); (exact ⟨(n2.far (p := ⟨p, 2, none⟩) (fun e => by simp at e; omega) _).cell 0 rfl, (n2.far (p := ⟨p, 2, none⟩) (fun e => by simp at e; omega) _).cell 1 rfl, (n2.far (p := ⟨p, 2, none⟩) (fun e => by simp at e; omega) _).cell 2 rfl⟩))
      clear hK K hHeld3
      try simp only [Act.put, List.setIfInBounds_toArray, List.set_cons_zero, List.set_cons_succ]
      refine wpAnyH_done (by kernel_rfl) ?_ _
      have HZ := Lib.hid (And.intro n1 (And.intro n2 (And.intro ho3 (And.intro hgr3 hat3)))); clear n1 n2 ho3 hgr3 hat3 mc m0 m1 m2 c0 x0 x1 x2 y0 y1 y2 yc
      go_upto_region 9 with fail
      refine wp_world (fun V => Hid (Mkr V base (Up F w w3) p kind mk (s ++ [newI st (j : Int)]) ∧ Touch F w V) ∧ V.cell? ⟨p, 2, none⟩ = some (.slice A3 (L + 1) c3) ∧ V.heap.size = w3.heap.size) ⟨⟨?_, ?_⟩, (HZ.out.1.set_ 2 _).cell 2 rfl, by simp⟩ ?_
      · refine ⟨A3, c3, _, ?_, (((HW.out.2.1.alloc (.cells #[.slice (some ⟨w.heap.size + 1, 0, none⟩) j j, .int .i64 st, .bool true] 187)).drew).push (F' := Up F w w3) (by decide) HZ.out.2.2.1 HZ.out.2.2.2.1 HZ.out.2.2.2.2 (fun g hg => .inl hg) (fun g hg => ?_) (((HW.out.2.2.2.1.base_le (by omega : base ≤ w.heap.size + 1)).alloc (.cells #[.slice (some ⟨w.heap.size + 1, 0, none⟩) j j, .int .i64 st, .bool true] 187)).drew) (fun g hg => ?_) (fun k hk => by rw [(List.mem_replicate.1 hk).2]; unfold I64; omega) HST.out.1).far_blk HZ.out.1 (by decide) (by decide) _ _, .inl H.out.2.2.1, h4, ?_⟩
        · have := HZ.out.1.set_ 2 (.slice A3 (L + 1) c3)
          rw [List.length_append, H.out.2.2.2.2.2]; exact this
        · rcases HZ.out.2.2.2.2 with e | e
          · exact .inl (HW.out.2.1.foot g (by rw [← e]; exact hg))
          · have hg0 := (HZ.out.2.2.1.lt g hg).2; rw [e] at hg; injection hg with hg; simp at hg; exact .inr ⟨by omega, hg0⟩
        · injection hg with hg; simp only at hg
          subst hg
          exact ⟨.inr ⟨by omega, by omega⟩, fun e => by have := H.out.2.2.2.2.1 _ e; omega⟩
        · show its (l ++ [_]) = _
          unfold its; rw [List.map_append]
          have := H.out.2.2.2.1
          unfold its at this
          rw [this]; simp [ItR.it, newI]
      · exact ((((Touch.ofBelow HW.out.2.2.2.2.1).alloc (.cells #[.slice (some ⟨w.heap.size + 1, 0, none⟩) j j, .int .i64 st, .bool true] 187)).drew.grown HZ.out.2.2.2.1 (fun g hg => HW.out.2.1.foot g hg)).setCell H.out.2.2.1 _)
      rintro V ⟨hV, v0, hVs⟩
      go_wp2_with fail
      go_ret2
      exact ⟨by first | rfl | (congr 3; omega), hV.out.1.mono (fun g hg => Up.more (w1 := w3) (by omega) hg), hV.out.2⟩
    · go_simp
      skip
      refine hK.out _ _ ?_ (fun hHeld1 => ?_)
      · first | trivial | ((try dsimp only); (exact ⟨y0, y1, y2⟩))
      clear hK K hHeld0
      try simp only [Act.put, List.setIfInBounds_toArray, List.set_cons_zero, List.set_cons_succ]
      refine held_call 4 (by kernel_rfl) rfl (fun K hK => ?_)
      go_simp
      skip
      refine hK.out _ _ ?_ (fun hHeld2 => ?_)
      · first | trivial | ((try dsimp only); (exact ⟨y0, y1, y2⟩))
      clear hK K hHeld1
      try simp only [Act.put, List.setIfInBounds_toArray, List.set_cons_zero, List.set_cons_succ]
      refine held_call 7 (by kernel_rfl) rfl (fun K hK => ?_)
      refine step_app (α := ItR) (n := L) (m := 1) (nm := L + 1) (r := [⟨some ⟨w.heap.size + 1, 0, none⟩, j, List.replicate j (-1), st, true⟩]) (by rfl) (.tmp 34) (.tmp 36) _ (by rfl) base 187 i0 _ 40 Try.underlying180 hi hz0 hz1 hz2 rfl (by decide) itr_one (by rfl) H.out.2.2.2.2.2 ((HW.out.2.1.row.alloc (.cells #[.slice (some ⟨w.heap.size + 1, 0, none⟩) j j, .int .i64 st, .bool true] 187)).drew) (B := W.heap.size + 1) (X := some ⟨W.heap.size, 0, none⟩) (d := 1) (by rfl) ((At.built W #[.slice (some ⟨w.heap.size + 1, 0, none⟩) j j, .int .i64 st, .bool true] 187 [(⟨some ⟨w.heap.size + 1, 0, none⟩, j, List.replicate j (-1), st, true⟩ : ItR)] (by simp [flat, Flat.cells]) (fun _ _ => trivial)).drew) rfl rfl (by omega) (by simp only [maxLen]; omega) (by simp; omega) ?_; intro A3 c3 w3 ho3 hgr3 hat3; have hs3 := hgr3.size; simp only [World.size_alloc, World.size_drew] at hs3; have n1 := ((HW.out.1.alloc (.cells #[.slice (some ⟨w.heap.size + 1, 0, none⟩) j j, .int .i64 st, .bool true] 187)).drew).grown hgr3 (fun e => own_ne_ty ((HW.out.2.1.row.alloc (.cells #[.slice (some ⟨w.heap.size + 1, 0, none⟩) j j, .int .i64 st, .bool true] 187)).drew) ((HW.out.1.alloc (.cells #[.slice (some ⟨w.heap.size + 1, 0, none⟩) j j, .int .i64 st, .bool true] 187)).drew) (by decide) e); have n2 := ((HW.out.2.2.1.alloc (.cells #[.slice (some ⟨w.heap.size + 1, 0, none⟩) j j, .int .i64 st, .bool true] 187)).drew).grown hgr3 (fun e => by have := H.out.2.2.2.2.1 _ (HW.out.2.1.foot _ e); omega); have m0 := n2.cell 0 (v := .slice (some ⟨w.heap.size + 1, 0, none⟩) j j) rfl; have m1 := n2.cell 1 (v := .int .i64 st) rfl; have m2 := n2.cell 2 (v := .bool true) rfl; have z2 := n1.frozen 2; have mc := n1.cell 2 (v := .slice A L c) rfl
      refine hK.out _ _ ?_ (fun hHeld3 => ?_)
      · first | trivial | ((try dsimp only); (exact ⟨m0, m1, m2⟩))
      clear hK K hHeld2
      try simp only [Act.put, List.setIfInBounds_toArray, List.set_cons_zero, List.set_cons_succ]
      refine held_take (v := ?_) 8 rfl (by kernel_rfl) (by kernel_rfl) (by kernel_rfl) (fun _ _ _ h => h) (by rfl) ?_ (by assumption) ?_
      rotate_left
      · (intro w hSw; (try dsimp only at hSw); go_simp; try with_reducible rfl)
      try simp only [Act.put, List.setIfInBounds_toArray, List.set_cons_zero, List.set_cons_succ]
      refine held_take (v := ?_) 9 rfl (by kernel_rfl) (by kernel_rfl) (by kernel_rfl) (fun _ _ _ h => h) (by rfl) ?_ (by assumption) ?_
      rotate_left
      · (intro w hSw; (try dsimp only at hSw); go_simp; try with_reducible rfl)
      try simp only [Act.put, List.setIfInBounds_toArray, List.set_cons_zero, List.set_cons_succ]
      refine held_call 10 (by kernel_rfl) rfl (fun K hK => ?_)
      go_simp
      skip
      refine hK.out _ _ ?_ (fun hHeld4 => ?_)
      · first | trivial | ((try dsimp only); (exact ⟨(n2.far (p := ⟨p, 2, none⟩) (fun e => by simp at e; omega) _).cell 0 rfl, (n2.far (p := ⟨p, 2, none⟩) (fun e => by simp at e; omega) _).cell 1 rfl, (n2.far (p := ⟨p, 2, none⟩) (fun e => by simp at e; omega) _).cell 2 rfl⟩))
      clear hK K hHeld3
      try simp only [Act.put, List.setIfInBounds_toArray, List.set_cons_zero, List.set_cons_succ]
      refine wpAnyH_done (by kernel_rfl) ?_ _
      have HZ := Lib.hid (And.intro n1 (And.intro n2 (And.intro ho3 (And.intro hgr3 hat3)))); clear n1 n2 ho3 hgr3 hat3 mc m0 m1 m2 c0 x0 x1 x2 y0 y1 y2 yc
      go_upto_region 9 with fail
      refine wp_world (fun V => Hid (Mkr V base (Up F w w3) p kind mk (s ++ [newI st (j : Int)]) ∧ Touch F w V) ∧ V.cell? ⟨p, 2, none⟩ = some (.slice A3 (L + 1) c3) ∧ V.heap.size = w3.heap.size) ⟨⟨?_, ?_⟩, (HZ.out.1.set_ 2 _).cell 2 rfl, by simp⟩ ?_
      · refine ⟨A3, c3, _, ?_, (((HW.out.2.1.alloc (.cells #[.slice (some ⟨w.heap.size + 1, 0, none⟩) j j, .int .i64 st, .bool true] 187)).drew).push (F' := Up F w w3) (by decide) HZ.out.2.2.1 HZ.out.2.2.2.1 HZ.out.2.2.2.2 (fun g hg => .inl hg) (fun g hg => ?_) (((HW.out.2.2.2.1.base_le (by omega : base ≤ w.heap.size + 1)).alloc (.cells #[.slice (some ⟨w.heap.size + 1, 0, none⟩) j j, .int .i64 st, .bool true] 187)).drew) (fun g hg => ?_) (fun k hk => by rw [(List.mem_replicate.1 hk).2]; unfold I64; omega) HST.out.1).far_blk HZ.out.1 (by decide) (by decide) _ _, .inl H.out.2.2.1, h4, ?_⟩
        · have := HZ.out.1.set_ 2 (.slice A3 (L + 1) c3)
          rw [List.length_append, H.out.2.2.2.2.2]; exact this
        · rcases HZ.out.2.2.2.2 with e | e
          · exact .inl (HW.out.2.1.foot g (by rw [← e]; exact hg))
          · have hg0 := (HZ.out.2.2.1.lt g hg).2; rw [e] at hg; injection hg with hg; simp at hg; exact .inr ⟨by omega, hg0⟩
        · injection hg with hg; simp only at hg
          subst hg
          exact ⟨.inr ⟨by omega, by omega⟩, fun e => by have := H.out.2.2.2.2.1 _ e; omega⟩
        · show its (l ++ [_]) = _
          unfold its; rw [List.map_append]
          have := H.out.2.2.2.1
          unfold its at this
          rw [this]; simp [ItR.it, newI]
      · exact ((((Touch.ofBelow HW.out.2.2.2.2.1).alloc (.cells #[.slice (some ⟨w.heap.size + 1, 0, none⟩) j j, .int .i64 st, .bool true] 187)).drew.grown HZ.out.2.2.2.1 (fun g hg => HW.out.2.1.foot g hg)).setCell H.out.2.2.1 _)
      rintro V ⟨hV, v0, hVs⟩
      go_wp2_with fail
      go_ret2
      exact ⟨by first | rfl | (congr 3; omega), hV.out.1.mono (fun g hg => Up.more (w1 := w3) (by omega) hg), hV.out.2⟩

end Go.Proofs.Ytpkccpegdpodoaa
