/- mark: set. -/
import Derived.Test.YtpkccpegdpodoaaMkL
namespace Go.Proofs.Ytpkccpegdpodoaa
open Go.RowKit

attribute [local go_sem ↓] Go.wp_at_zero Go.wp_at_succ

theorem At.pre {α : Type} [Enc α] {w : World} {B : Nat} {A : Option Addr} {l r : List α} (h : At w B A (l ++ r)) : At w B A l := fun i x hx => h i x (by rw [List.getElem?_append_left (List.getElem?_eq_some_iff.1 hx).1]; exact hx)
theorem setE_named {s : List It} {d : Dd} (h : namedE s (setL d) ≠ 0) : setE s d = namedE s (setL d) := if_pos h
theorem setE_range {s : List It} {d : Dd} (h : namedE s (setL d) = 0) (h2 : d.n < 0 ∨ ((hasAt s d.a).length : Int) ≤ d.n) : setE s d = 1 := by unfold setE; rw [if_neg (by simpa using h), if_pos h2]
theorem setE_ok {s : List It} {d : Dd} (h : namedE s (setL d) = 0) (h2 : ¬ (d.n < 0 ∨ ((hasAt s d.a).length : Int) ≤ d.n)) : setE s d = 0 := by unfold setE; rw [if_neg (by simpa using h), if_neg h2]
theorem Mkr.fine_len {w : World} {base p : Nat} {F : Nat → Prop} {kind : Int} {mk : Bool} {s : List It} (h : Mkr w base F p kind mk s) : p < w.heap.size := by
  obtain ⟨A, c, l, h1, -⟩ := h; exact h1.lt

theorem Blk.touch {F : Nat → Prop} {w w' : World} {g : Nat} {t : TypeId} {cs : Array Value} (h : Blk w g t cs) (hT : Touch F w w') (hg : ¬ F g) : Blk w' g t cs := (hT.block g h.lt hg).trans h

/-- what a setting leaves -/
def SetPost (base p : Nat) (F : Nat → Prop) (kind : Int) (mk : Bool) (s : List It) (d : Dd) (w : World) (e : Ending) (w' : World) : Prop :=
  e = .returned (.int .i64 (setE s d)) ∧ Mkr w' base F p kind mk (if setE s d = 0 then setI kind mk d s else s) ∧ Touch F w w'
theorem SetPost.no {base p : Nat} {F : Nat → Prop} {kind : Int} {mk : Bool} {s : List It} {d : Dd} {w w' : World} {e : Ending} {v : Int} (hv : setE s d = v) (h0 : v ≠ 0) (he : e = .returned (.int .i64 v)) (hm : Mkr w' base F p kind mk s) (hT : Touch F w w') : SetPost base p F kind mk s d w e w' := by
  unfold SetPost
  rw [hv, if_neg h0]
  exact ⟨he, hm, hT⟩
theorem SetPost.yes {base p : Nat} {F : Nat → Prop} {kind : Int} {mk : Bool} {s s' : List It} {d : Dd} {w w' : World} {e : Ending} (hv : setE s d = 0) (hs : setI kind mk d s = s') (he : e = .returned (.int .i64 0)) (hm : Mkr w' base F p kind mk s') (hT : Touch F w w') : SetPost base p F kind mk s d w e w' := by
  unfold SetPost
  rw [hv, if_pos rfl, hs]
  exact ⟨he, hm, hT⟩

theorem shadeI_same (mk : Bool) (n : Int) {s : List It} {i : Nat} {x : It} (h : s[i]? = some x) : ∃ y, (shadeI mk n s)[i]? = some y ∧ y.has = x.has ∧ y.held = x.held := by
  unfold shadeI
  split
  · rw [get_modify]
    split
    · rw [h]; exact ⟨_, rfl, rfl, rfl⟩
    · rw [h]; exact ⟨_, rfl, rfl, rfl⟩
  · rw [h]; exact ⟨_, rfl, rfl, rfl⟩
theorem set_fin {w : World} {base p t j gx c xc : Nat} {F : Nat → Prop} {kind dd b sn xs : Int} {mk xb : Bool} {A : Option Addr} {s : List It} {l l5 : List ItR} {xh : List Int}
    (h : MkrL w base F p kind mk A c (shadeI mk sn s) l5) (hsa : SameA l l5) (hx : l[t]? = some ⟨some ⟨gx, 0, none⟩, xc, xh, xs, xb⟩) (hl : its l = s) (hj : j < xh.length) (hb : I64 b) (hsn : (if kind = 1 then b else (hasAt s (t : Int)).getD j 0) = sn) :
    Mkr (w.setCell ⟨gx, j, none⟩ (.int .i64 b)) base F p kind mk (setI kind mk ⟨dd, (t : Int), b, (j : Int)⟩ s) ∧ F gx ∧ (∃ v, w.cell? ⟨gx, j, none⟩ = some (.int .i64 v)) ∧ w.frozen? ⟨gx, j, none⟩ = false := by
  obtain ⟨h1, h2, h3, h4, h5⟩ := h
  obtain ⟨x5, hx5, hA, hc⟩ := hsa t _ hx
  simp only at hA hc
  have hsx : s[t]? = some ⟨xh, xs, xb⟩ := by rw [← hl]; exact its_get hx
  have hhas : x5.has = xh := by
    obtain ⟨y, hy, hy2, -⟩ := shadeI_same mk sn hsx
    rw [← h5, its_get hx5] at hy
    injection hy with hy
    rw [← hy] at hy2
    exact hy2
  have hsub := h2.sub t x5 hx5
  have hown := hsub.1
  rw [hA, hc, hhas] at hown
  have hset := h2.setHas hx5 (by decide) hA (j := j) (by rw [hhas]; exact hj) b hb
  have hits := its_set l5 t x5 { x5 with has := x5.has.set j b } (It.sethas j b) hx5 rfl
  rw [h5] at hits
  have hne : p ≠ gx := fun e => own_ne_ty hown h1 (by decide) (by rw [← e]; rfl)
  refine ⟨⟨A, c, _, by rw [List.length_set]; exact h1.far (p := ⟨gx, j, none⟩) hne _, hset, h3, h4, ?_⟩, hsub.2.1 gx (by rw [hA]; rfl), ⟨xh[j], hown.cell_int (List.getElem?_eq_getElem hj)⟩, hown.frozen rfl j⟩
  rw [hits]
  unfold setI
  simp only [Int.toNat_natCast]
  rw [hsn]

set_option maxHeartbeats 1600000 in
set_option maxRecDepth 100000 in
theorem set_any (w : World) (base p : Nat) (F : Nat → Prop) (kind dd a b n : Int) (mk : Bool) (s : List It) (h : Mkr w base F p kind mk s) (hi : MInv kind mk s) (hk : kind = 1 ∨ kind = 2) (hF : ∀ g, F g → g < w.heap.size) (hd : I64 a ∧ I64 b ∧ I64 n) :
    Calls Try.prog 123 #[.pointer (some ⟨p, 0, none⟩), .agg #[.int .i64 dd, .int .i64 a, .int .i64 b, .int .i64 n]] w (SetPost base p F kind mk s ⟨dd, a, b, n⟩ w) := by
  obtain ⟨P, hP⟩ : ∃ P, SetPost base p F kind mk s ⟨dd, a, b, n⟩ w = P := ⟨_, rfl⟩
  have HP := Lib.hid hP
  rw [hP]; clear hP
  have hp := h.fine_len
  have H := Lib.hid (And.intro h (And.intro hi (And.intro hk (And.intro hF hd)))); clear h hi hk hF hd
  have hat2 : ∀ V : World, At (V.alloc (.cells #[.int .i64 a, .int .i64 b] 3)) (V.heap.size + 1) (some ⟨V.heap.size, 0, none⟩) [a, b] := fun V => At.built V _ _ [a, b] rfl (by
    intro z hz
    simp only [List.mem_cons, List.not_mem_nil, or_false] at hz
    rcases hz with rfl | rfl
    · exact H.out.2.2.2.2.1
    · exact H.out.2.2.2.2.2.1)
  have hls : (b == -1) = true ∧ setL ⟨dd, a, b, n⟩ = [a] ∨ (b == -1) = false ∧ setL ⟨dd, a, b, n⟩ = [a, b] := by
    by_cases hb : b = -1
    · exact .inl ⟨by simpa using hb, if_pos hb⟩
    · exact .inr ⟨by simpa using hb, if_neg hb⟩
  have HA2 := Lib.hid hat2; clear hat2
  rcases hls with ⟨d0, hl⟩ | ⟨d0, hl⟩
  all_goals
    have hat : ∀ V : World, At (V.alloc (.cells #[.int .i64 a, .int .i64 b] 3)) (V.heap.size + 1) (some ⟨V.heap.size, 0, none⟩) (setL ⟨dd, a, b, n⟩) := by
      intro V; rw [hl]
      first
        | exact HA2.out V
        | exact At.pre (r := [b]) (HA2.out V)
    have HL := Lib.hid (And.intro hl hat); clear hl hat
    go_enter Try.func123, Try.ntmps123
    go_wp2_with fail
    refine calls_world (fun W => Blk W w.heap.size 97 #[.int .i64 dd, .int .i64 a, .int .i64 b, .int .i64 n] ∧ At W W.heap.size (some ⟨w.heap.size + 1, 0, none⟩) (setL ⟨dd, a, b, n⟩) ∧ Below w.heap.size w W ∧ w.heap.size < W.heap.size) ⟨(Blk.new w _ _).alloc _, ?_, ((Below.refl _ _).alloc (Nat.le_refl _) _).alloc (by simp) _, by simp; omega⟩ ?_
    · have := HL.out.2 (w.alloc (.cells #[.int .i64 dd, .int .i64 a, .int .i64 b, .int .i64 n] 97))
      simpa using this
    rintro W ⟨hD, hAt, hbW, hsW⟩
    refine (mnamed_any W base p W.heap.size 2 _ F kind mk s _ _ (H.out.1.fresh (hbW.mono (Nat.le_refl _))) H.out.2.1.fine hAt (Nat.le_refl _) (by rw [HL.out.1]; rfl) (by decide)).mono ?_
    rintro e w1 ⟨rfl, hb1⟩
    have hs1 := hb1.size
    have hb : Below w.heap.size w w1 := hbW.trans (hb1.mono (by omega))
    have HD := Lib.hid (And.intro (hD.fresh hb1) (And.intro hb (H.out.1.fresh hb))); clear hD hAt hbW hb1 hb
    by_cases hn0 : namedE s (setL ⟨dd, a, b, n⟩) = 0
    · rw [hn0]
      have hz := namedE_zero hn0 a (by rw [HL.out.1]; simp)
      obtain ⟨t, rfl, htl, -⟩ := hz
      obtain ⟨A, c, l, m1, m2, m3, m4, m5⟩ := HD.out.2.2
      have hll : l.length = s.length := by rw [← m5, its_length]
      obtain ⟨L, hL⟩ : ∃ L, l.length = L := ⟨_, rfl⟩
      rw [hL] at m1 hll
      obtain ⟨x, hx⟩ : ∃ x, l[t]? = some x := ⟨_, List.getElem?_eq_getElem (by omega)⟩
      obtain ⟨g, rfl, hg1, hg2, q0, q1, q2⟩ := m2.cells hx
      have hsx : s[t]? = some x.it := by rw [← m5]; exact its_get hx
      obtain ⟨XA, xc, xh, xs, xb⟩ := x
      simp only at q0 q1 q2
      obtain ⟨xn, hxn⟩ : ∃ n, xh.length = n := ⟨_, rfl⟩
      rw [hxn] at q0
      have hat : hasAt s (t : Int) = xh := by unfold hasAt; rw [Int.toNat_natCast, hsx]; rfl
      have p2 := m1.cell 2 (v := .slice (some ⟨g, 0, none⟩) L c) rfl
      have p0 := m1.cell 0 (v := .int .i64 kind) rfl
      have e1 := HD.out.1.cell 1 (v := .int .i64 (t : Int)) rfl
      have e2 := HD.out.1.cell 2 (v := .int .i64 b) rfl
      have e3 := HD.out.1.cell 3 (v := .int .i64 n) rfl
      have t0 : (0 : Int) ≤ (t : Int) := by omega
      have t1 : (t : Int) < (L : Int) := by omega
      have hplt := m1.lt
      have hDlt := HD.out.1.lt
      have hY : ∀ o : Obj, (w1.alloc o).cell? ⟨p, 2, none⟩ = some (.slice (some ⟨g, 0, none⟩) L c) ∧ (w1.alloc o).cell? ⟨w.heap.size, 1, none⟩ = some (.int .i64 (t : Int)) ∧ (w1.alloc o).cell? ⟨g, t * 3, none⟩ = some (.slice XA xn xc) ∧ (w1.alloc o).cell? ⟨g, t * 3 + 1, none⟩ = some (.int .i64 xs) ∧ (w1.alloc o).cell? ⟨g, t * 3 + 2, none⟩ = some (.bool xb) := fun o =>
        ⟨(World.cell?_alloc_lt _ _ _ hplt).trans p2, (World.cell?_alloc_lt _ _ _ hDlt).trans e1, (World.cell?_alloc_lt _ _ _ hg2).trans q0, (World.cell?_alloc_lt _ _ _ hg2).trans q1, (World.cell?_alloc_lt _ _ _ hg2).trans q2⟩
      have HY := Lib.hid hY; clear hY
      have HX := Lib.hid (And.intro m1 (And.intro m2 (And.intro m3 (And.intro m5 (And.intro hll (And.intro hx (And.intro hsx (And.intro hxn (And.intro hat (And.intro hn0 hL)))))))))); clear m1 m2 m3 m5 hll hx hsx hxn hat hn0 hL htl
      go_wp2_with fail
      refine wp_region_held_drew (S := (fun w' => w'.cell? ⟨p, 2, none⟩ = some (.slice (some ⟨g, 0, none⟩) L c) ∧ w'.cell? ⟨w.heap.size, 1, none⟩ = some (.int .i64 (t : Int)) ∧ w'.cell? ⟨g, t * 3, none⟩ = some (.slice XA xn xc) ∧ w'.cell? ⟨g, t * 3 + 1, none⟩ = some (.int .i64 xs) ∧ w'.cell? ⟨g, t * 3 + 2, none⟩ = some (.bool xb))) (by kernel_rfl) ?_ (fun hHeld0 => ?_)
      · first | trivial | ((try dsimp only); (exact ⟨p2, e1, q0, q1, q2⟩))
      refine held_take (v := ?_) 0 rfl (by kernel_rfl) (by kernel_rfl) (by kernel_rfl) (fun _ _ _ h => h) (by rfl) ?_ (by assumption) ?_
      rotate_left
      · (intro w hSw; (try dsimp only at hSw); go_simp; try with_reducible rfl)
      try simp only [Act.put, List.setIfInBounds_toArray, List.set_cons_zero, List.set_cons_succ]
      refine held_take (v := ?_) 1 rfl (by kernel_rfl) (by kernel_rfl) (by kernel_rfl) (fun _ _ _ h => h) (by rfl) ?_ (by assumption) ?_
      rotate_left
      · (intro w hSw; (try dsimp only at hSw); go_simp; try with_reducible rfl)
      try simp only [Act.put, List.setIfInBounds_toArray, List.set_cons_zero, List.set_cons_succ]
      refine held_take (v := ?_) 2 rfl (by kernel_rfl) (by kernel_rfl) (by kernel_rfl) (fun _ _ _ h => h) (by rfl) ?_ (by assumption) ?_
      rotate_left
      · (intro w hSw; (try dsimp only at hSw); go_simp; try with_reducible rfl)
      try simp only [Act.put, List.setIfInBounds_toArray, List.set_cons_zero, List.set_cons_succ]
      refine held_take (v := ?_) 3 rfl (by kernel_rfl) (by kernel_rfl) (by kernel_rfl) (fun _ _ _ h => h) (by rfl) ?_ (by assumption) ?_
      rotate_left
      · (intro w hSw; (try dsimp only at hSw); go_simp; try with_reducible rfl)
      try simp only [Act.put, List.setIfInBounds_toArray, List.set_cons_zero, List.set_cons_succ]
      refine held_take (v := ?_) 4 rfl (by kernel_rfl) (by kernel_rfl) (by kernel_rfl) (fun _ _ _ h => h) (by rfl) ?_ (by assumption) ?_
      rotate_left
      · (intro w hSw; (try dsimp only at hSw); go_simp; try with_reducible rfl)
      try simp only [Act.put, List.setIfInBounds_toArray, List.set_cons_zero, List.set_cons_succ]
      refine held_take (v := ?_) 5 rfl (by kernel_rfl) (by kernel_rfl) (by kernel_rfl) (fun _ _ _ h => h) (by rfl) ?_ (by assumption) ?_
      rotate_left
      · (intro w hSw; (try dsimp only at hSw); go_simp; try with_reducible rfl)
      try simp only [Act.put, List.setIfInBounds_toArray, List.set_cons_zero, List.set_cons_succ]
      refine held_take (v := ?_) 6 rfl (by kernel_rfl) (by kernel_rfl) (by kernel_rfl) (fun _ _ _ h => h) (by rfl) ?_ (by assumption) ?_
      rotate_left
      · (intro w hSw; (try dsimp only at hSw); go_simp; try with_reducible rfl)
      try simp only [Act.put, List.setIfInBounds_toArray, List.set_cons_zero, List.set_cons_succ]
      refine held_take (v := ?_) 7 rfl (by kernel_rfl) (by kernel_rfl) (by kernel_rfl) (fun _ _ _ h => h) (by rfl) ?_ (by assumption) ?_
      rotate_left
      · (intro w hSw; (try dsimp only at hSw); go_simp; try with_reducible rfl)
      try simp only [Act.put, List.setIfInBounds_toArray, List.set_cons_zero, List.set_cons_succ]
      refine held_call 8 (by kernel_rfl) rfl (fun K hK => ?_)
      go_simp
      skip
      refine hK.out _ _ ?_ (fun hHeld1 => ?_)
      · first | trivial | ((try dsimp only); (exact HY.out _))
      clear hK K hHeld0
      try simp only [Act.put, List.setIfInBounds_toArray, List.set_cons_zero, List.set_cons_succ]
      refine held_call 9 (by kernel_rfl) rfl (fun K hK => ?_)
      go_simp
      skip
      refine hK.out _ _ ?_ (fun hHeld2 => ?_)
      · first | trivial | ((try dsimp only); (exact HY.out _))
      clear hK K hHeld1
      try simp only [Act.put, List.setIfInBounds_toArray, List.set_cons_zero, List.set_cons_succ]
      refine wpAnyH_done (by kernel_rfl) ?_ _
      go_upto_region 8 with fail
      refine wp_world (fun V => Hid (MkrL V base F p kind mk (some ⟨g, 0, none⟩) c s l ∧ Blk V w.heap.size 97 #[.int .i64 dd, .int .i64 (t : Int), .int .i64 b, .int .i64 n] ∧ Blk V w1.heap.size 187 #[.slice XA xn xc, .int .i64 xs, .bool xb] ∧ Touch F w V)) ⟨⟨by rw [HX.out.2.2.2.2.2.2.2.2.2.2]; exact (HX.out.1.alloc _).drew, (HX.out.2.1.alloc _).drew, HX.out.2.2.1, m4, HX.out.2.2.2.1⟩, (HD.out.1.alloc _).drew, (Blk.new _ _ _).drew, ((Touch.ofBelow HD.out.2.1).alloc _).drew⟩ ?_
      rintro V hV
      clear p2 p0 e1 e2 e3 q0 q1 q2
      have e3 := hV.out.2.1.cell 3 (v := .int .i64 n) rfl
      have e2 := hV.out.2.1.cell 2 (v := .int .i64 b) rfl
      have x0 := hV.out.2.2.1.cell 0 (v := .slice XA xn xc) rfl
      have p0 := hV.out.1.1.cell 0 (v := .int .i64 kind) rfl
      have hVX := hV.out.2.2.1.lt
      by_cases hr : n < 0 ∨ (xn : Int) ≤ n
      · have HR := Lib.hid (setE_range (d := ⟨dd, (t : Int), b, n⟩) HX.out.2.2.2.2.2.2.2.2.2.1 (by rw [HX.out.2.2.2.2.2.2.2.2.1, HX.out.2.2.2.2.2.2.2.1]; exact hr))
        by_cases hn0 : n < 0
        · clear hr
          go_wp2_with fail
          rw [← HP.out]
          exact SetPost.no HR.out (by decide) rfl ⟨_, c, l, hV.out.1⟩ hV.out.2.2.2
        · have hn1 : (xn : Int) ≤ n := by omega
          clear hr
          go_wp2_with fail
          rw [← HP.out]
          exact SetPost.no HR.out (by decide) rfl ⟨_, c, l, hV.out.1⟩ hV.out.2.2.2
      · have HR := Lib.hid (setE_ok (d := ⟨dd, (t : Int), b, n⟩) HX.out.2.2.2.2.2.2.2.2.2.1 (by rw [HX.out.2.2.2.2.2.2.2.2.1, HX.out.2.2.2.2.2.2.2.1]; exact hr))
        obtain ⟨j, rfl⟩ : ∃ j : Nat, n = (j : Int) := ⟨n.toNat, by omega⟩
        have hj : j < xn := by omega
        have j0 : (0 : Int) ≤ (j : Int) := by omega
        have j1 : (j : Int) < (xn : Int) := by omega
        have nj0 : ¬ (j : Int) < 0 := by omega
        have nj1 : ¬ (xn : Int) ≤ (j : Int) := by omega
        clear hr
        obtain ⟨gx, rfl, hgx1, hgx2⟩ := (hV.out.1.2.1.sub t _ HX.out.2.2.2.2.2.1).1.some_ (by simp only; rw [HX.out.2.2.2.2.2.2.2.1]; omega)
        have hjx : j < xh.length := by rw [HX.out.2.2.2.2.2.2.2.1]; exact hj
        have holdc := (hV.out.1.2.1.sub t _ HX.out.2.2.2.2.2.1).1.cell_int (i := j) (List.getElem?_eq_getElem hjx)
        have holdr := H.out.2.1.refs _ (List.mem_of_getElem? HX.out.2.2.2.2.2.2.1) (xh[j]) (List.getElem_mem hjx)
        obtain ⟨old, hold⟩ : ∃ o, xh[j] = o := ⟨_, rfl⟩
        simp only [hold] at holdc
        rw [hold] at holdr
        have hgd : (hasAt s (t : Int)).getD j 0 = old := by rw [HX.out.2.2.2.2.2.2.2.2.1, List.getD_eq_getElem?_getD, List.getElem?_eq_getElem hjx, hold]; rfl
        have hbv : b = -1 ∨ ∃ m : Nat, b = (m : Int) ∧ m < s.length := by
          by_cases hb1 : b = -1
          · exact .inl hb1
          · obtain ⟨m, e, e2, -⟩ := namedE_zero HX.out.2.2.2.2.2.2.2.2.2.1 b (by rw [HL.out.1]; first | (simp; done) | (exfalso; exact hb1 (by simpa using d0)))
            exact .inr ⟨m, e, e2⟩
        have hfin := fun (W5 : World) (l5 : List ItR) (sn : Int) (h : MkrL W5 base F p kind mk (some ⟨g, 0, none⟩) c (shadeI mk sn s) l5) (hsa : SameA l l5) (hsn : (if kind = 1 then b else (hasAt s (t : Int)).getD j 0) = sn) => set_fin (dd := dd) h hsa HX.out.2.2.2.2.2.1 HX.out.2.2.2.1 hjx H.out.2.2.2.2.2.1 hsn
        have hnD : ¬ F w.heap.size := fun e => by have := H.out.2.2.2.1 _ e; omega
        have hnX : ¬ F w1.heap.size := fun e => by have := H.out.2.2.2.1 _ e; omega
        have HB := Lib.hid (And.intro hbv (And.intro holdr (And.intro hgd hfin)))
        clear hbv holdr hgd hfin hold hjx hgx1 hgx2
        have hs1000 : s.length ≤ 1000 := by have := H.out.2.1.small; omega
        rcases H.out.2.2.1 with hk1 | hk2
        · subst hk1
          go_wp2_with fail
          refine (mshadeL_any V base p F 1 b mk _ c s l hV.out.1 HB.out.1 hs1000).mono ?_
          rintro e w5 ⟨rfl, ⟨l5, m5a, m5b⟩, m5c, m5d, m5e⟩
          obtain ⟨f1, f2, ⟨ov, f3⟩, f4⟩ := HB.out.2.2.2 w5 l5 b m5a m5b (by simp)
          have hx5 := hV.out.2.2.1.touch m5c hnX
          have hd5 := hV.out.2.1.touch m5c hnD
          clear e2 e3 x0 p0 holdc
          have x0 := hx5.cell 0 (v := .slice (some ⟨gx, 0, none⟩) xn xc) rfl
          have e2 := hd5.cell 2 (v := .int .i64 b) rfl
          have e3 := hd5.cell 3 (v := .int .i64 (j : Int)) rfl
          have HQ := Lib.hid (And.intro f1 (And.intro ((hV.out.2.2.2.trans m5c).setCell (p := ⟨gx, j, none⟩) f2 (.int .i64 b)) True.intro)); clear f1 f2 m5a m5b m5c m5d m5e hx5 hd5
          go_wp2_with fail
          rw [← HP.out]
          exact SetPost.yes HR.out rfl rfl HQ.out.1 HQ.out.2.1
        · subst hk2
          go_wp2_with fail
          refine (mshadeL_any V base p F 2 old mk _ c s l hV.out.1 (HB.out.2.1.imp id (fun ⟨m, e, e2, _⟩ => ⟨m, e, e2⟩)) hs1000).mono ?_
          rintro e w5 ⟨rfl, ⟨l5, m5a, m5b⟩, m5c, m5d, m5e⟩
          obtain ⟨f1, f2, ⟨ov, f3⟩, f4⟩ := HB.out.2.2.2 w5 l5 old m5a m5b (by rw [if_neg (by decide)]; exact HB.out.2.2.1)
          have hx5 := hV.out.2.2.1.touch m5c hnX
          have hd5 := hV.out.2.1.touch m5c hnD
          clear e2 e3 x0 p0 holdc
          have x0 := hx5.cell 0 (v := .slice (some ⟨gx, 0, none⟩) xn xc) rfl
          have e2 := hd5.cell 2 (v := .int .i64 b) rfl
          have e3 := hd5.cell 3 (v := .int .i64 (j : Int)) rfl
          have HQ := Lib.hid (And.intro f1 (And.intro ((hV.out.2.2.2.trans m5c).setCell (p := ⟨gx, j, none⟩) f2 (.int .i64 b)) True.intro)); clear f1 f2 m5a m5b m5c m5d m5e hx5 hd5
          go_wp2_with fail
          rw [← HP.out]
          exact SetPost.yes HR.out rfl rfl HQ.out.1 HQ.out.2.1
    · have HN := Lib.hid hn0
      have d1 : (namedE s (setL ⟨dd, a, b, n⟩) != 0) = true := by simpa using hn0
      obtain ⟨er, her⟩ : ∃ er, namedE s (setL ⟨dd, a, b, n⟩) = er := ⟨_, rfl⟩
      rw [her] at d1 ⊢
      have HER := Lib.hid (And.intro her hn0); clear her hn0
      go_wp2_with fail
      rw [← HP.out]
      exact SetPost.no ((setE_named HER.out.2).trans HER.out.1) (by rw [← HER.out.1]; exact HER.out.2) rfl HD.out.2.2 (Touch.ofBelow HD.out.2.1)

end Go.Proofs.Ytpkccpegdpodoaa
