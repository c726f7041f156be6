/- Graphs of things, built one by one: what a row of rows holds. -/
import Derived.Test.YtpkccpegdpodoaaMkA
import Derived.Test.YtpkccpegdpodoaaIntFns
import Derived.Test.YtpkccpegdpodoaaHeld2
import Derived.Handy
import Derived.Deep.DeepCutAuto
namespace Go.Proofs.Ytpkccpegdpodoaa
open Go.RowKit

/-- a list of ints as it lies -/
structure SlR where
  A : Option Addr
  c : Nat
  l : List Int
instance : Flat SlR where
  cells x := [.slice x.A x.l.length x.c]
  sz := 1
  len _ := rfl
  ok _ := True
theorem slr_one : ∀ x : SlR, ∀ u ∈ Flat.cells x, u.oneCell' = true := by
  intro x u hu; simp [Flat.cells] at hu; subst hu; rfl

/-- a graph that is being built: rows of its own, and its roots -/
structure GrS (w : World) (base : Nat) (HA : Option Addr) (hc : Nat) (RA : Option Addr) (rc : Nat) (hs : List SlR) (rs : List Int) : Prop where
  row : Own w base 47 HA hc hs
  sub : ∀ (i : Nat) (x : SlR), hs[i]? = some x → Own w base 3 x.A x.c x.l ∧ ∀ k ∈ x.l, I64 k
  roots : Own w base 3 RA rc rs
  apart : ∀ (i : Nat) (x : SlR), hs[i]? = some x → ∀ g, rowOf x.A = some g → rowOf RA ≠ some g

section
variable {w w' : World} {base : Nat} {HA HA' RA RA' : Option Addr} {hc hc' rc rc' : Nat} {hs : List SlR} {rs : List Int}
theorem GrS.start (w : World) (base : Nat) : GrS w base none 0 none 0 [] [] := ⟨Own.nil_, fun i x h => by simp at h, Own.nil_, fun i x h => by simp at h⟩
theorem GrS.fresh (h : GrS w base HA hc RA rc hs rs) (hb : Below w.heap.size w w') : GrS w' base HA hc RA rc hs rs :=
  ⟨h.row.fresh hb, fun i x hx => ⟨(h.sub i x hx).1.fresh hb, (h.sub i x hx).2⟩, h.roots.fresh hb, h.apart⟩
theorem GrS.alloc (h : GrS w base HA hc RA rc hs rs) (o : Obj) : GrS (w.alloc o) base HA hc RA rc hs rs := h.fresh ((Below.refl _ _).alloc (Nat.le_refl _) _)
theorem GrS.drew (h : GrS w base HA hc RA rc hs rs) : GrS w.drew base HA hc RA rc hs rs := ⟨h.row.drew, fun i x hx => ⟨(h.sub i x hx).1.drew, (h.sub i x hx).2⟩, h.roots.drew, h.apart⟩
/-- a store into a block of another type -/
theorem GrS.blk (h : GrS w base HA hc RA rc hs rs) {g : Nat} {t : TypeId} {cs : Array Value} (hg : Blk w g t cs) (h1 : 47 ≠ t) (h2 : 3 ≠ t) (i : Nat) (u : Value) : GrS (w.setCell ⟨g, i, none⟩ u) base HA hc RA rc hs rs :=
  ⟨h.row.setCell _ _ (own_ne_ty h.row hg h1), fun j x hx => ⟨(h.sub j x hx).1.setCell _ _ (own_ne_ty (h.sub j x hx).1 hg h2), (h.sub j x hx).2⟩, h.roots.setCell _ _ (own_ne_ty h.roots hg h2), h.apart⟩
theorem push_case {α : Type} {l : List α} {y : α} {i : Nat} {x : α} (h : (l ++ [y])[i]? = some x) : l[i]? = some x ∨ i = l.length ∧ x = y := by
  have hlt := (List.getElem?_eq_some_iff.1 h).1
  rw [List.length_append, List.length_singleton] at hlt
  by_cases e : i < l.length
  · rw [List.getElem?_append_left e] at h; exact .inl h
  · obtain rfl : i = l.length := by omega
    simp at h; exact .inr ⟨rfl, h.symm⟩
/-- one more row -/
theorem GrS.push {y : SlR} (h : GrS w base HA hc RA rc hs rs) (hrow : Own w' base 47 HA' hc' (hs ++ [y])) (hg : w.grownBy w' (rowOf HA)) (hy : Own w base 3 y.A y.c y.l) (hyk : ∀ k ∈ y.l, I64 k) (hya : ∀ g, rowOf y.A = some g → rowOf RA ≠ some g) :
    GrS w' base HA' hc' RA rc (hs ++ [y]) rs := by
  have grow : ∀ {z : SlR}, Own w base 3 z.A z.c z.l → Own w' base 3 z.A z.c z.l := fun {z} hz => hz.grown hg (fun g hg' e => own_own_ty h.row hz (by decide) g e hg')
  refine ⟨hrow, fun i x hx => ?_, h.roots.grown hg (fun g hg' e => own_own_ty h.row h.roots (by decide) g e hg'), fun i x hx => ?_⟩
  · rcases push_case hx with hx | ⟨-, rfl⟩
    · exact ⟨grow (h.sub i x hx).1, (h.sub i x hx).2⟩
    · exact ⟨grow hy, hyk⟩
  · rcases push_case hx with hx | ⟨-, rfl⟩
    · exact h.apart i x hx
    · exact hya
/-- one more root -/
theorem GrS.root {k : Int} (h : GrS w base HA hc RA rc hs rs) (hrow : Own w' base 3 RA' rc' (rs ++ [k])) (hg : w.grownBy w' (rowOf RA)) (hat : rowOf RA' = rowOf RA ∨ rowOf RA' = some w.heap.size) : GrS w' base HA hc RA' rc' hs (rs ++ [k]) := by
  refine ⟨h.row.grown hg (fun g hg' e => own_own_ty h.row h.roots (by decide) g hg' e), fun i x hx => ⟨(h.sub i x hx).1.grown hg (fun g hg' e => h.apart i x hx g hg' e), (h.sub i x hx).2⟩, hrow, fun i x hx g hg' => ?_⟩
  rcases hat with e | e
  · rw [e]; exact h.apart i x hx g hg'
  · rw [e]; intro e2; injection e2 with e2; have := ((h.sub i x hx).1.lt g hg').2; omega
/-- the rows read as lists -/
theorem GrS.at_ (h : GrS w base HA hc RA rc hs rs) : At w w.heap.size HA (hs.map SlR.l) := by
  intro i x hx
  rw [List.getElem?_map] at hx
  cases hs' : hs[i]? with
  | none => rw [hs'] at hx; cases hx
  | some y =>
    rw [hs'] at hx
    injection hx with hx
    subst hx
    obtain ⟨b, o, cs, hA, hb, hc, hr⟩ := h.row.at_ (fun _ _ => trivial) i y hs'
    have hy := h.sub i y hs'
    have hcap := hy.1.le_cap
    refine ⟨b, o, cs, hA, hb, hc, y.A, y.c, hr.1, hcap.1, hcap.2, fun e => ?_, hy.1.at_ (fun k hk => hy.2 k hk)⟩
    rcases hy.1.2 with ⟨h1, -⟩ | ⟨g', cap, cur, hv, -⟩
    · injection h1
    · rw [e] at hv; injection hv with hv; cases hv
end

theorem infoIntsG : (Try.prog.info? 47).map (fun i => (i.zero, i.size, i.bytes)) = some (some (.slice none 0 0), 1, 24) := by kernel_rfl
theorem gHas_take (s : List It) (k : Nat) (x : It) (h : s[k]? = some x) : gHas (s.take (k + 1)) = gHas (s.take k) ++ [x.has.filter fun k => decide (0 ≤ k)] := by
  unfold gHas; rw [List.take_add_one, h]; simp
theorem gRoots_take (s : List It) (k : Nat) (x : It) (h : s[k]? = some x) : gRoots (s.take (k + 1)) = gRoots (s.take k) ++ if x.held = true then [(k : Int)] else [] := by
  unfold gRoots
  rw [List.map_take, List.map_take]
  exact rising_snoc _ _ _ (by rw [List.getElem?_map, h]; rfl)
theorem gRoots_len (s : List It) : (gRoots s).length ≤ s.length := by
  unfold gRoots; have := rising_length (s.map It.held); rw [List.length_map] at this; exact this

/-- what a graph's function leaves -/
def GrPost (s : List It) (w : World) (e : Ending) (w' : World) : Prop :=
  ∃ (HA RA : Option Addr) (hc rc m : Nat), e = .returned (.agg #[.slice HA s.length hc, .slice RA m rc]) ∧ At w' w'.heap.size HA (gHas s) ∧ Own w' w.heap.size 3 RA rc (gRoots s) ∧ (gRoots s).length = m ∧ Below w.heap.size w w'

theorem egGraph1 : ∀ args w, (callFunc 137 args).run Try.prog w = .ok (.enter 137 args) w := fun _ _ => by kernel_rfl
theorem graph1_any (x : Int) (w : World) : Calls Try.prog 137 #[.int .i64 x] w fun e w' => e = .returned (.bool (decide (x < 0))) ∧ w = w' := by
  go_enter Try.func137, Try.ntmps137
  go_wp2
  go_ret
  exact ⟨rfl, rfl⟩
theorem filter_neg (l : List Int) : (l.filter fun x => !decide (x < 0)) = l.filter fun k => decide (0 ≤ k) := by
  congr 1; funext x
  by_cases h : x < 0
  · have h2 : ¬ 0 ≤ x := by omega
    simp [h, h2]
  · have h2 : 0 ≤ x := by omega
    simp [h, h2]

theorem results_cell1 {P : Program} {fn : Func} {p : Tmp} {ty : TypeId} (h : fn.results = #[.cell p ty]) (tmps : Array Value) (w : World) (g : Nat) (t : TypeId) (cs : Array Value) (d : TypeDesc)
    (hp : tmps.getD p undef = .pointer (some ⟨g, 0, none⟩)) (hg : Blk w g t cs)
    (hu : P.underlying ty = some d) (hd : (match d with | .struct _ | .array _ _ => true | _ => false) = true) (hi : (P.info? ty).map (·.size) = some cs.size) :
    (results fn tmps).run P w = .ok (.agg cs) w := by
  have hp' : tmps[p]?.getD undef = .pointer (some ⟨g, 0, none⟩) := by simpa using hp
  simp [results, h, hp', asAddr, run_loadVar_row w g t ty cs (0, 0) d hg hu hd hi]

/-- the graph's block and what it holds -/
def GrB (w : World) (base G k m : Nat) (s : List It) : Prop :=
  ∃ (HA RA : Option Addr) (hc rc : Nat) (hs : List SlR), Blk w G 49 #[.slice HA k hc, .slice RA m rc] ∧ GrS w base HA hc RA rc hs (gRoots (s.take k)) ∧ hs.map SlR.l = gHas (s.take k) ∧ hs.length = k ∧ (gRoots (s.take k)).length = m

set_option maxHeartbeats 1600000 in
set_option maxRecDepth 100000 in
theorem mgraph_any (w : World) (base p : Nat) (F : Nat → Prop) (kind : Int) (mk : Bool) (s : List It) (h : Mkr w base F p kind mk s) (hs : s.length ≤ 100) (hx : ∀ x ∈ s, x.has.length ≤ 10) :
    Calls Try.prog 57 #[.pointer (some ⟨p, 0, none⟩)] w (GrPost s w) := by
  obtain ⟨i0, hi, hz0, hz1, hz2⟩ := info_parts infoInt
  obtain ⟨j0, hj, hy0, hy1, hy2⟩ := info_parts infoIntsG
  obtain ⟨A, c, l, h1, h2, h3, h4, h5⟩ := h
  have hl : s.length = l.length := by rw [← h5, its_length]
  obtain ⟨N, hN⟩ : ∃ N, l.length = N := ⟨_, rfl⟩
  rw [hN] at h1 hl
  rw [hl] at hs
  have c2 := h1.cell 2 (v := .slice A N c) rfl
  have hplt := h1.lt
  have H := Lib.hid (And.intro h1 (And.intro h2 (And.intro h5 (And.intro hx (And.intro hl hN))))); clear h1 h2 h5 hl hx hN
  go_enter Try.func57, Try.ntmps57
  go_wp2_with fail
  clear c2
  go_loopg [11] N (fun gk iv wr => ∃ (k m : Nat), k ≤ N ∧ gk = N - k ∧ iv = .int .i64 k ∧ m ≤ k ∧ Hid (GrB wr w.heap.size (w.heap.size + 1) k m s ∧ Blk wr w.heap.size 49 #[.slice none 0 0, .slice none 0 0]) ∧ Below w.heap.size w wr)
  case atStart =>
    refine ⟨0, 0, Nat.zero_le _, rfl, rfl, Nat.le_refl _, ⟨⟨none, none, 0, 0, [], Blk.at_ _ _ _ (by simp), GrS.start _ _, by simp [gHas], rfl, by simp [gRoots, rising, risingFrom]⟩, (Blk.new w _ _).alloc _⟩, ((Below.refl _ _).alloc (Nat.le_refl _) _).alloc (by simp) _⟩
  case round =>
    obtain ⟨k, m, hk, rfl, rfl, hm, hkeep, hbl⟩ := hrel
    have hsz := hbl.size
    by_cases hlt : k < N
    · obtain ⟨x, hx⟩ : ∃ x, l[k]? = some x := ⟨_, List.getElem?_eq_getElem (by have := H.out.2.2.2.2.2; omega)⟩
      have hits := H.out.2.1.fresh hbl
      obtain ⟨g, rfl, hg1, hg2, q0, q1, q2⟩ := hits.cells hx
      obtain ⟨hxo, -, hxi, hxs⟩ := hits.sub k x hx
      obtain ⟨XA, xc, xh, xs, xb⟩ := x
      simp only at q0 q1 q2 hxo hxi hxs
      have hsx : s[k]? = some ⟨xh, xs, xb⟩ := by have := its_get hx; rw [H.out.2.2.1] at this; exact this
      have hx10 : xh.length ≤ 10 := H.out.2.2.2.1 _ (List.mem_of_getElem? hsx)
      have b0 : (0 : Int) ≤ (k : Int) := by omega
      have b1 : (k : Int) < (N : Int) := by omega
      have ht1 := gHas_take s k _ hsx
      have ht2 := gRoots_take s k _ hsx
      simp only at ht1 ht2
      obtain ⟨y, hy⟩ : ∃ y, (xh.filter fun k => decide (0 ≤ k)) = y := ⟨_, rfl⟩
      rw [hy] at ht1
      have hyi : ∀ k ∈ y, I64 k := fun k hk => by rw [← hy] at hk; exact hxi k (List.mem_filter.1 hk).1
      have HX := Lib.hid (And.intro ht1 (And.intro ht2 (And.intro hy (And.intro hyi (And.intro hxi (And.intro hx10 hkeep.out))))))
      have HO := Lib.hid hxo
      clear ht1 ht2 hy hyi hxi hxo hsx hx hits hkeep
      go_wp2_with fail
      refine wp_world (fun W => GrB W w.heap.size (w.heap.size + 1) k m s ∧ Blk W w.heap.size 49 #[.slice none 0 0, .slice none 0 0] ∧ Blk W wr.heap.size 187 #[.slice XA xh.length xc, .int .i64 xs, .bool xb] ∧ Below wr.heap.size wr W ∧ wr.heap.size < W.heap.size) ⟨?_, HX.out.2.2.2.2.2.2.2.alloc _, Blk.new _ _ _, (Below.refl _ _).alloc (Nat.le_refl _) _, by simp⟩ ?_
      · obtain ⟨HA, RA, hc, rc, hs', d1, d2, d3⟩ := HX.out.2.2.2.2.2.2.1
        exact ⟨HA, RA, hc, rc, hs', d1.alloc _, d2.alloc _, d3⟩
      rintro W ⟨⟨HA, RA, hc, rc, hs', d1, d2, d3, d4, d5⟩, d6, d7, d8, d9⟩
      have g0 := d1.cell 0 (v := .slice HA k hc) rfl
      have g1 := d1.cell 1 (v := .slice RA m rc) rfl
      have x0 := d7.cell 0 (v := .slice XA xh.length xc) rfl
      have x2 := d7.cell 2 (v := .bool xb) rfl
      have HW := Lib.hid (And.intro d1 (And.intro d2 (And.intro d3 (And.intro d4 (And.intro d5 (And.intro d6 (And.intro d7 (And.intro d8 ((HO.out.fresh d8).at_ HX.out.2.2.2.2.1)))))))))
      have hGX : w.heap.size + 1 ≠ wr.heap.size := fun e => by have := d7; rw [← e] at this; have h0 := d1; unfold Blk at this h0; rw [h0] at this; injection this with this; injection this with _ this _; exact absurd this (by decide)
      have hGW := d1.lt
      clear d1 d2 d3 d4 d5 d6 d7 d8 q0 q1 q2
      go_cut [] from 16 to 24 (fun V => ∃ (A3 A1 : Option Addr) (c3 c1 : Nat), Hid (Blk V (w.heap.size + 1) 49 #[.slice A3 (k + 1) c3, .slice RA m rc] ∧ GrS V w.heap.size A3 c3 RA rc (hs' ++ [⟨A1, c1, y⟩]) (gRoots (s.take k)) ∧ Blk V wr.heap.size 187 #[.slice XA xh.length xc, .int .i64 xs, .bool xb] ∧ Blk V w.heap.size 49 #[.slice none 0 0, .slice none 0 0]) ∧ Below w.heap.size w V)
      case first =>
        refine wp_region_held_drew (S := (fun w' => w'.cell? ⟨wr.heap.size, 0, none⟩ = some (.slice XA xh.length xc))) (by kernel_rfl) ?_ (fun hHeld0 => ?_)
        · first | trivial | ((try dsimp only); (exact x0))
        refine held_take (v := ?_) 0 rfl (by kernel_rfl) (by kernel_rfl) (by kernel_rfl) (fun _ _ _ h => h) (by rfl) ?_ (by assumption) ?_
        rotate_left
        · (intro w hSw; (try dsimp only at hSw); go_simp; try with_reducible rfl)
        try simp only [Act.put, List.setIfInBounds_toArray, List.set_cons_zero, List.set_cons_succ]
        refine held_take (v := ?_) 2 rfl (by kernel_rfl) (by kernel_rfl) (by kernel_rfl) (fun _ _ _ h => h) (by rfl) ?_ (by assumption) ?_
        rotate_left
        · (intro w hSw; (try dsimp only at hSw); go_simp; try with_reducible rfl)
        try simp only [Act.put, List.setIfInBounds_toArray, List.set_cons_zero, List.set_cons_succ]
        refine held_take (v := ?_) 3 rfl (by kernel_rfl) (by kernel_rfl) (by kernel_rfl) (fun _ _ _ h => h) (by rfl) ?_ (by assumption) ?_
        rotate_left
        · (intro w hSw; (try dsimp only at hSw); go_simp; try with_reducible rfl)
        try simp only [Act.put, List.setIfInBounds_toArray, List.set_cons_zero, List.set_cons_succ]
        refine held_call2 1 4 (by kernel_rfl) rfl rfl (fun K hK => ?_) (fun K hK => ?_)
        · go_simp
          skip
          refine hK.out _ _ ?_ (fun hHeld1 => ?_)
          · first | trivial | ((try dsimp only); (exact x0))
          clear hK K hHeld0
          try simp only [Act.put, List.setIfInBounds_toArray, List.set_cons_zero, List.set_cons_succ]
          refine held_call 4 (by kernel_rfl) rfl (fun K hK => ?_)
          go_simp
          go_at_call 136; refine (cloneInt_any XA xc W.heap.size xh.length xh W.drew rfl HW.out.2.2.2.2.2.2.2.2.drew (Nat.le_refl _) (by have := HX.out.2.2.2.2.2.1; omega)).mono ?_; rintro e w1 ⟨A1, c1, rfl, ho1, hb1⟩; have hs1 := hb1.size; have f0 := (hb1.cell (p := ⟨w.heap.size + 1, 0, none⟩) hGW).trans g0; have f1 := (hb1.cell (p := ⟨wr.heap.size, 0, none⟩) d9).trans x0; have HC1 := Lib.hid (And.intro ho1 (undrew hb1)); clear ho1 hb1
          try (go_wp2_with fail)
          refine hK.out _ _ ?_ (fun hHeld2 => ?_)
          · first | trivial | ((try dsimp only); (exact f1))
          clear hK K hHeld1
          try simp only [Act.put, List.setIfInBounds_toArray, List.set_cons_zero, List.set_cons_succ]
          refine held_call 5 (by kernel_rfl) rfl (fun K hK => ?_)
          go_simp
          go_at_call 135; refine (deleteFuncInt_any A1 c1 W.heap.size 137 xh.length #[] (fun x => decide (x < 0)) xh w1 rfl HC1.out.1 (fun x hx => HX.out.2.2.2.2.1 x hx) egGraph1 (fun W' x _ _ _ => (graph1_any x W').mono fun e w' ⟨he, hw⟩ => ⟨he, by subst hw; exact Below.refl _ _⟩)).mono ?_; rintro e w2 ⟨rfl, ho2, hgr2⟩; rw [filter_neg, HX.out.2.2.1] at ho2; rw [filter_neg, HX.out.2.2.1]; have hb2 : Below W.heap.size W w2 := HC1.out.2.grown hgr2 hs1 (fun g hg => (HC1.out.1.lt g hg).1); have hs2 := hb2.size; have f2 := (hb2.cell (p := ⟨w.heap.size + 1, 0, none⟩) hGW).trans g0; have f3 := (hb2.cell (p := ⟨wr.heap.size, 0, none⟩) d9).trans x0; have f4 : (w2.alloc (.cells #[.slice A1 y.length c1] 47)).cell? ⟨w.heap.size + 1, 0, none⟩ = some (.slice HA k hc) := (World.cell?_alloc_lt _ _ _ (by simp; omega)).trans f2; have f5 : (w2.alloc (.cells #[.slice A1 y.length c1] 47)).cell? ⟨wr.heap.size, 0, none⟩ = some (.slice XA xh.length xc) := (World.cell?_alloc_lt _ _ _ (by simp; omega)).trans f3; have HC2 := Lib.hid (And.intro ho2 (And.intro hb2 (And.intro (HW.out.2.1.fresh hb2) (HW.out.1.fresh hb2)))); clear ho2 hgr2 hb2
          try (go_wp2_with fail)
          refine hK.out _ _ ?_ (fun hHeld3 => ?_)
          · first | trivial | ((try dsimp only); (exact f3))
          clear hK K hHeld2
          try simp only [Act.put, List.setIfInBounds_toArray, List.set_cons_zero, List.set_cons_succ]
          refine held_call 6 (by kernel_rfl) rfl (fun K hK => ?_)
          go_simp
          skip
          refine hK.out _ _ ?_ (fun hHeld4 => ?_)
          · first | trivial | ((try dsimp only); (exact f5))
          clear hK K hHeld3
          try simp only [Act.put, List.setIfInBounds_toArray, List.set_cons_zero, List.set_cons_succ]
          refine held_call 7 (by kernel_rfl) rfl (fun K hK => ?_)
          refine step_app (α := SlR) (n := k) (m := 1) (nm := k + 1) (r := [⟨A1, c1, y⟩]) (by rfl) (.tmp 17) (.tmp 22) _ (by rfl) w.heap.size 47 j0 _ 24 Try.underlying46 hj hy0 hy1 hy2 rfl (by decide) slr_one (by rfl) HW.out.2.2.2.1 (HC2.out.2.2.1.row.alloc _) (B := w2.heap.size + 1) (X := some ⟨w2.heap.size, 0, none⟩) (d := 1) (by rfl) (At.built w2 _ _ [(⟨A1, c1, y⟩ : SlR)] rfl (fun _ _ => trivial)) rfl rfl (by omega) (by simp only [maxLen]; omega) (by simp; omega) ?_; intro A3 c3 w3 ho3 hgr3 hat3; have n1 := (HC2.out.2.2.2.alloc (.cells #[.slice A1 y.length c1] 47)).grown hgr3 (fun e => own_ne_ty (HC2.out.2.2.1.row.alloc (.cells #[.slice A1 y.length c1] 47)) (HC2.out.2.2.2.alloc (.cells #[.slice A1 y.length c1] 47)) (by decide) e); have m1 := n1.frozen 0; have n2 := (HW.out.2.2.2.2.2.2.1.fresh HC2.out.2.1).alloc (.cells #[.slice A1 y.length c1] 47); have n3 := n2.grown hgr3 (fun e => own_ne_ty (HC2.out.2.2.1.row.alloc (.cells #[.slice A1 y.length c1] 47)) n2 (by decide) e); have m2 := n3.cell 0 (v := .slice XA xh.length xc) rfl; have m3 := n1.cell 0 (v := .slice HA k hc) rfl
          refine hK.out _ _ ?_ (fun hHeld5 => ?_)
          · first | trivial | ((try dsimp only); (exact m2))
          clear hK K hHeld4
          try simp only [Act.put, List.setIfInBounds_toArray, List.set_cons_zero, List.set_cons_succ]
          refine held_take (v := ?_) 8 rfl (by kernel_rfl) (by kernel_rfl) (by kernel_rfl) (fun _ _ _ h => h) (by rfl) ?_ (by assumption) ?_
          rotate_left
          · (intro w hSw; (try dsimp only at hSw); go_simp; try with_reducible rfl)
          try simp only [Act.put, List.setIfInBounds_toArray, List.set_cons_zero, List.set_cons_succ]
          refine held_call 9 (by kernel_rfl) rfl (fun K hK => ?_)
          go_simp
          skip
          refine hK.out _ _ ?_ (fun hHeld6 => ?_)
          · first | trivial | ((try dsimp only); (exact (n3.far (p := ⟨w.heap.size + 1, 0, none⟩) (fun e => hGX e.symm) _).cell 0 rfl))
          clear hK K hHeld5
          try simp only [Act.put, List.setIfInBounds_toArray, List.set_cons_zero, List.set_cons_succ]
          refine wpAnyH_done (by kernel_rfl) ?_ _
          have n4 := HW.out.2.2.2.2.2.1.fresh (HC2.out.2.1)
          have n5 := (n4.alloc (.cells #[.slice A1 y.length c1] 47)).grown hgr3 (fun e => own_ne_ty (HC2.out.2.2.1.row.alloc (.cells #[.slice A1 y.length c1] 47)) (n4.alloc _) (by decide) e)
          have n6 := (HC2.out.2.2.1.alloc (.cells #[.slice A1 y.length c1] 47)).push ho3 hgr3 ((HC2.out.1.base_le (by omega)).alloc _) HX.out.2.2.2.1 (fun g hg e => by have h1 := (HC2.out.1.lt g hg).1; have h2 := (HW.out.2.1.roots.lt g e).2; omega)
          have hb3 : Below w.heap.size w w3 := ((hbl.trans ((HW.out.2.2.2.2.2.2.2.1.mono hsz).trans (HC2.out.2.1.mono (by omega)))).alloc (by omega) _).grown hgr3 (by simp; omega) (fun g hg => (HW.out.2.1.row.lt g hg).1)
          have HZ := Lib.hid (And.intro n1 (And.intro n3 (And.intro n5 (And.intro n6 hb3)))); clear n1 n2 n3 n4 n5 n6 hb3 g0 g1 x0 x2 m1 m2 m3 f0 f1 f2 f3 f4 f5 ho3 hgr3 hat3
          go_wp2_with fail
          go_meet
          exact ⟨A3, A1, c3, c1, ⟨HZ.out.1.set_ 0 _, HZ.out.2.2.2.1.blk HZ.out.1 (by decide) (by decide) _ _, HZ.out.2.1.far (fun e => hGX e.symm) _, HZ.out.2.2.1.far (by simp) _⟩, HZ.out.2.2.2.2.setCell (by simp) _⟩
        · go_simp
          go_at_call 136; refine (cloneInt_any XA xc W.heap.size xh.length xh W.drew rfl HW.out.2.2.2.2.2.2.2.2.drew (Nat.le_refl _) (by have := HX.out.2.2.2.2.2.1; omega)).mono ?_; rintro e w1 ⟨A1, c1, rfl, ho1, hb1⟩; have hs1 := hb1.size; have f0 := (hb1.cell (p := ⟨w.heap.size + 1, 0, none⟩) hGW).trans g0; have f1 := (hb1.cell (p := ⟨wr.heap.size, 0, none⟩) d9).trans x0; have HC1 := Lib.hid (And.intro ho1 (undrew hb1)); clear ho1 hb1
          try (go_wp2_with fail)
          refine hK.out _ _ ?_ (fun hHeld1 => ?_)
          · first | trivial | ((try dsimp only); (exact f1))
          clear hK K hHeld0
          try simp only [Act.put, List.setIfInBounds_toArray, List.set_cons_zero, List.set_cons_succ]
          refine held_call2 1 5 (by kernel_rfl) rfl rfl (fun K hK => ?_) (fun K hK => ?_)
          · go_simp
            skip
            refine hK.out _ _ ?_ (fun hHeld2 => ?_)
            · first | trivial | ((try dsimp only); (exact f1))
            clear hK K hHeld1
            try simp only [Act.put, List.setIfInBounds_toArray, List.set_cons_zero, List.set_cons_succ]
            refine held_call 5 (by kernel_rfl) rfl (fun K hK => ?_)
            go_simp
            go_at_call 135; refine (deleteFuncInt_any A1 c1 W.heap.size 137 xh.length #[] (fun x => decide (x < 0)) xh w1 rfl HC1.out.1 (fun x hx => HX.out.2.2.2.2.1 x hx) egGraph1 (fun W' x _ _ _ => (graph1_any x W').mono fun e w' ⟨he, hw⟩ => ⟨he, by subst hw; exact Below.refl _ _⟩)).mono ?_; rintro e w2 ⟨rfl, ho2, hgr2⟩; rw [filter_neg, HX.out.2.2.1] at ho2; rw [filter_neg, HX.out.2.2.1]; have hb2 : Below W.heap.size W w2 := HC1.out.2.grown hgr2 hs1 (fun g hg => (HC1.out.1.lt g hg).1); have hs2 := hb2.size; have f2 := (hb2.cell (p := ⟨w.heap.size + 1, 0, none⟩) hGW).trans g0; have f3 := (hb2.cell (p := ⟨wr.heap.size, 0, none⟩) d9).trans x0; have f4 : (w2.alloc (.cells #[.slice A1 y.length c1] 47)).cell? ⟨w.heap.size + 1, 0, none⟩ = some (.slice HA k hc) := (World.cell?_alloc_lt _ _ _ (by simp; omega)).trans f2; have f5 : (w2.alloc (.cells #[.slice A1 y.length c1] 47)).cell? ⟨wr.heap.size, 0, none⟩ = some (.slice XA xh.length xc) := (World.cell?_alloc_lt _ _ _ (by simp; omega)).trans f3; have HC2 := Lib.hid (And.intro ho2 (And.intro hb2 (And.intro (HW.out.2.1.fresh hb2) (HW.out.1.fresh hb2)))); clear ho2 hgr2 hb2
            try (go_wp2_with fail)
            refine hK.out _ _ ?_ (fun hHeld3 => ?_)
            · first | trivial | ((try dsimp only); (exact f3))
            clear hK K hHeld2
            try simp only [Act.put, List.setIfInBounds_toArray, List.set_cons_zero, List.set_cons_succ]
            refine held_call 6 (by kernel_rfl) rfl (fun K hK => ?_)
            go_simp
            skip
            refine hK.out _ _ ?_ (fun hHeld4 => ?_)
            · first | trivial | ((try dsimp only); (exact f5))
            clear hK K hHeld3
            try simp only [Act.put, List.setIfInBounds_toArray, List.set_cons_zero, List.set_cons_succ]
            refine held_call 7 (by kernel_rfl) rfl (fun K hK => ?_)
            refine step_app (α := SlR) (n := k) (m := 1) (nm := k + 1) (r := [⟨A1, c1, y⟩]) (by rfl) (.tmp 17) (.tmp 22) _ (by rfl) w.heap.size 47 j0 _ 24 Try.underlying46 hj hy0 hy1 hy2 rfl (by decide) slr_one (by rfl) HW.out.2.2.2.1 (HC2.out.2.2.1.row.alloc _) (B := w2.heap.size + 1) (X := some ⟨w2.heap.size, 0, none⟩) (d := 1) (by rfl) (At.built w2 _ _ [(⟨A1, c1, y⟩ : SlR)] rfl (fun _ _ => trivial)) rfl rfl (by omega) (by simp only [maxLen]; omega) (by simp; omega) ?_; intro A3 c3 w3 ho3 hgr3 hat3; have n1 := (HC2.out.2.2.2.alloc (.cells #[.slice A1 y.length c1] 47)).grown hgr3 (fun e => own_ne_ty (HC2.out.2.2.1.row.alloc (.cells #[.slice A1 y.length c1] 47)) (HC2.out.2.2.2.alloc (.cells #[.slice A1 y.length c1] 47)) (by decide) e); have m1 := n1.frozen 0; have n2 := (HW.out.2.2.2.2.2.2.1.fresh HC2.out.2.1).alloc (.cells #[.slice A1 y.length c1] 47); have n3 := n2.grown hgr3 (fun e => own_ne_ty (HC2.out.2.2.1.row.alloc (.cells #[.slice A1 y.length c1] 47)) n2 (by decide) e); have m2 := n3.cell 0 (v := .slice XA xh.length xc) rfl; have m3 := n1.cell 0 (v := .slice HA k hc) rfl
            refine hK.out _ _ ?_ (fun hHeld5 => ?_)
            · first | trivial | ((try dsimp only); (exact m2))
            clear hK K hHeld4
            try simp only [Act.put, List.setIfInBounds_toArray, List.set_cons_zero, List.set_cons_succ]
            refine held_take (v := ?_) 8 rfl (by kernel_rfl) (by kernel_rfl) (by kernel_rfl) (fun _ _ _ h => h) (by rfl) ?_ (by assumption) ?_
            rotate_left
            · (intro w hSw; (try dsimp only at hSw); go_simp; try with_reducible rfl)
            try simp only [Act.put, List.setIfInBounds_toArray, List.set_cons_zero, List.set_cons_succ]
            refine held_call 9 (by kernel_rfl) rfl (fun K hK => ?_)
            go_simp
            skip
            refine hK.out _ _ ?_ (fun hHeld6 => ?_)
            · first | trivial | ((try dsimp only); (exact (n3.far (p := ⟨w.heap.size + 1, 0, none⟩) (fun e => hGX e.symm) _).cell 0 rfl))
            clear hK K hHeld5
            try simp only [Act.put, List.setIfInBounds_toArray, List.set_cons_zero, List.set_cons_succ]
            refine wpAnyH_done (by kernel_rfl) ?_ _
            have n4 := HW.out.2.2.2.2.2.1.fresh (HC2.out.2.1)
            have n5 := (n4.alloc (.cells #[.slice A1 y.length c1] 47)).grown hgr3 (fun e => own_ne_ty (HC2.out.2.2.1.row.alloc (.cells #[.slice A1 y.length c1] 47)) (n4.alloc _) (by decide) e)
            have n6 := (HC2.out.2.2.1.alloc (.cells #[.slice A1 y.length c1] 47)).push ho3 hgr3 ((HC2.out.1.base_le (by omega)).alloc _) HX.out.2.2.2.1 (fun g hg e => by have h1 := (HC2.out.1.lt g hg).1; have h2 := (HW.out.2.1.roots.lt g e).2; omega)
            have hb3 : Below w.heap.size w w3 := ((hbl.trans ((HW.out.2.2.2.2.2.2.2.1.mono hsz).trans (HC2.out.2.1.mono (by omega)))).alloc (by omega) _).grown hgr3 (by simp; omega) (fun g hg => (HW.out.2.1.row.lt g hg).1)
            have HZ := Lib.hid (And.intro n1 (And.intro n3 (And.intro n5 (And.intro n6 hb3)))); clear n1 n2 n3 n4 n5 n6 hb3 g0 g1 x0 x2 m1 m2 m3 f0 f1 f2 f3 f4 f5 ho3 hgr3 hat3
            go_wp2_with fail
            go_meet
            exact ⟨A3, A1, c3, c1, ⟨HZ.out.1.set_ 0 _, HZ.out.2.2.2.1.blk HZ.out.1 (by decide) (by decide) _ _, HZ.out.2.1.far (fun e => hGX e.symm) _, HZ.out.2.2.1.far (by simp) _⟩, HZ.out.2.2.2.2.setCell (by simp) _⟩
          · go_simp
            go_at_call 135; refine (deleteFuncInt_any A1 c1 W.heap.size 137 xh.length #[] (fun x => decide (x < 0)) xh w1 rfl HC1.out.1 (fun x hx => HX.out.2.2.2.2.1 x hx) egGraph1 (fun W' x _ _ _ => (graph1_any x W').mono fun e w' ⟨he, hw⟩ => ⟨he, by subst hw; exact Below.refl _ _⟩)).mono ?_; rintro e w2 ⟨rfl, ho2, hgr2⟩; rw [filter_neg, HX.out.2.2.1] at ho2; rw [filter_neg, HX.out.2.2.1]; have hb2 : Below W.heap.size W w2 := HC1.out.2.grown hgr2 hs1 (fun g hg => (HC1.out.1.lt g hg).1); have hs2 := hb2.size; have f2 := (hb2.cell (p := ⟨w.heap.size + 1, 0, none⟩) hGW).trans g0; have f3 := (hb2.cell (p := ⟨wr.heap.size, 0, none⟩) d9).trans x0; have f4 : (w2.alloc (.cells #[.slice A1 y.length c1] 47)).cell? ⟨w.heap.size + 1, 0, none⟩ = some (.slice HA k hc) := (World.cell?_alloc_lt _ _ _ (by simp; omega)).trans f2; have f5 : (w2.alloc (.cells #[.slice A1 y.length c1] 47)).cell? ⟨wr.heap.size, 0, none⟩ = some (.slice XA xh.length xc) := (World.cell?_alloc_lt _ _ _ (by simp; omega)).trans f3; have HC2 := Lib.hid (And.intro ho2 (And.intro hb2 (And.intro (HW.out.2.1.fresh hb2) (HW.out.1.fresh hb2)))); clear ho2 hgr2 hb2
            try (go_wp2_with fail)
            refine hK.out _ _ ?_ (fun hHeld2 => ?_)
            · first | trivial | ((try dsimp only); (exact f3))
            clear hK K hHeld1
            try simp only [Act.put, List.setIfInBounds_toArray, List.set_cons_zero, List.set_cons_succ]
            refine held_call2 1 6 (by kernel_rfl) rfl rfl (fun K hK => ?_) (fun K hK => ?_)
            · go_simp
              skip
              refine hK.out _ _ ?_ (fun hHeld3 => ?_)
              · first | trivial | ((try dsimp only); (exact f3))
              clear hK K hHeld2
              try simp only [Act.put, List.setIfInBounds_toArray, List.set_cons_zero, List.set_cons_succ]
              refine held_call 6 (by kernel_rfl) rfl (fun K hK => ?_)
              go_simp
              skip
              refine hK.out _ _ ?_ (fun hHeld4 => ?_)
              · first | trivial | ((try dsimp only); (exact f5))
              clear hK K hHeld3
              try simp only [Act.put, List.setIfInBounds_toArray, List.set_cons_zero, List.set_cons_succ]
              refine held_call 7 (by kernel_rfl) rfl (fun K hK => ?_)
              refine step_app (α := SlR) (n := k) (m := 1) (nm := k + 1) (r := [⟨A1, c1, y⟩]) (by rfl) (.tmp 17) (.tmp 22) _ (by rfl) w.heap.size 47 j0 _ 24 Try.underlying46 hj hy0 hy1 hy2 rfl (by decide) slr_one (by rfl) HW.out.2.2.2.1 (HC2.out.2.2.1.row.alloc _) (B := w2.heap.size + 1) (X := some ⟨w2.heap.size, 0, none⟩) (d := 1) (by rfl) (At.built w2 _ _ [(⟨A1, c1, y⟩ : SlR)] rfl (fun _ _ => trivial)) rfl rfl (by omega) (by simp only [maxLen]; omega) (by simp; omega) ?_; intro A3 c3 w3 ho3 hgr3 hat3; have n1 := (HC2.out.2.2.2.alloc (.cells #[.slice A1 y.length c1] 47)).grown hgr3 (fun e => own_ne_ty (HC2.out.2.2.1.row.alloc (.cells #[.slice A1 y.length c1] 47)) (HC2.out.2.2.2.alloc (.cells #[.slice A1 y.length c1] 47)) (by decide) e); have m1 := n1.frozen 0; have n2 := (HW.out.2.2.2.2.2.2.1.fresh HC2.out.2.1).alloc (.cells #[.slice A1 y.length c1] 47); have n3 := n2.grown hgr3 (fun e => own_ne_ty (HC2.out.2.2.1.row.alloc (.cells #[.slice A1 y.length c1] 47)) n2 (by decide) e); have m2 := n3.cell 0 (v := .slice XA xh.length xc) rfl; have m3 := n1.cell 0 (v := .slice HA k hc) rfl
              refine hK.out _ _ ?_ (fun hHeld5 => ?_)
              · first | trivial | ((try dsimp only); (exact m2))
              clear hK K hHeld4
              try simp only [Act.put, List.setIfInBounds_toArray, List.set_cons_zero, List.set_cons_succ]
              refine held_take (v := ?_) 8 rfl (by kernel_rfl) (by kernel_rfl) (by kernel_rfl) (fun _ _ _ h => h) (by rfl) ?_ (by assumption) ?_
              rotate_left
              · (intro w hSw; (try dsimp only at hSw); go_simp; try with_reducible rfl)
              try simp only [Act.put, List.setIfInBounds_toArray, List.set_cons_zero, List.set_cons_succ]
              refine held_call 9 (by kernel_rfl) rfl (fun K hK => ?_)
              go_simp
              skip
              refine hK.out _ _ ?_ (fun hHeld6 => ?_)
              · first | trivial | ((try dsimp only); (exact (n3.far (p := ⟨w.heap.size + 1, 0, none⟩) (fun e => hGX e.symm) _).cell 0 rfl))
              clear hK K hHeld5
              try simp only [Act.put, List.setIfInBounds_toArray, List.set_cons_zero, List.set_cons_succ]
              refine wpAnyH_done (by kernel_rfl) ?_ _
              have n4 := HW.out.2.2.2.2.2.1.fresh (HC2.out.2.1)
              have n5 := (n4.alloc (.cells #[.slice A1 y.length c1] 47)).grown hgr3 (fun e => own_ne_ty (HC2.out.2.2.1.row.alloc (.cells #[.slice A1 y.length c1] 47)) (n4.alloc _) (by decide) e)
              have n6 := (HC2.out.2.2.1.alloc (.cells #[.slice A1 y.length c1] 47)).push ho3 hgr3 ((HC2.out.1.base_le (by omega)).alloc _) HX.out.2.2.2.1 (fun g hg e => by have h1 := (HC2.out.1.lt g hg).1; have h2 := (HW.out.2.1.roots.lt g e).2; omega)
              have hb3 : Below w.heap.size w w3 := ((hbl.trans ((HW.out.2.2.2.2.2.2.2.1.mono hsz).trans (HC2.out.2.1.mono (by omega)))).alloc (by omega) _).grown hgr3 (by simp; omega) (fun g hg => (HW.out.2.1.row.lt g hg).1)
              have HZ := Lib.hid (And.intro n1 (And.intro n3 (And.intro n5 (And.intro n6 hb3)))); clear n1 n2 n3 n4 n5 n6 hb3 g0 g1 x0 x2 m1 m2 m3 f0 f1 f2 f3 f4 f5 ho3 hgr3 hat3
              go_wp2_with fail
              go_meet
              exact ⟨A3, A1, c3, c1, ⟨HZ.out.1.set_ 0 _, HZ.out.2.2.2.1.blk HZ.out.1 (by decide) (by decide) _ _, HZ.out.2.1.far (fun e => hGX e.symm) _, HZ.out.2.2.1.far (by simp) _⟩, HZ.out.2.2.2.2.setCell (by simp) _⟩
            · go_simp
              skip
              refine hK.out _ _ ?_ (fun hHeld3 => ?_)
              · first | trivial | ((try dsimp only); (exact f5))
              clear hK K hHeld2
              try simp only [Act.put, List.setIfInBounds_toArray, List.set_cons_zero, List.set_cons_succ]
              refine held_call 1 (by kernel_rfl) rfl (fun K hK => ?_)
              go_simp
              skip
              refine hK.out _ _ ?_ (fun hHeld4 => ?_)
              · first | trivial | ((try dsimp only); (exact f5))
              clear hK K hHeld3
              try simp only [Act.put, List.setIfInBounds_toArray, List.set_cons_zero, List.set_cons_succ]
              refine held_call 7 (by kernel_rfl) rfl (fun K hK => ?_)
              refine step_app (α := SlR) (n := k) (m := 1) (nm := k + 1) (r := [⟨A1, c1, y⟩]) (by rfl) (.tmp 17) (.tmp 22) _ (by rfl) w.heap.size 47 j0 _ 24 Try.underlying46 hj hy0 hy1 hy2 rfl (by decide) slr_one (by rfl) HW.out.2.2.2.1 (HC2.out.2.2.1.row.alloc _) (B := w2.heap.size + 1) (X := some ⟨w2.heap.size, 0, none⟩) (d := 1) (by rfl) (At.built w2 _ _ [(⟨A1, c1, y⟩ : SlR)] rfl (fun _ _ => trivial)) rfl rfl (by omega) (by simp only [maxLen]; omega) (by simp; omega) ?_; intro A3 c3 w3 ho3 hgr3 hat3; have n1 := (HC2.out.2.2.2.alloc (.cells #[.slice A1 y.length c1] 47)).grown hgr3 (fun e => own_ne_ty (HC2.out.2.2.1.row.alloc (.cells #[.slice A1 y.length c1] 47)) (HC2.out.2.2.2.alloc (.cells #[.slice A1 y.length c1] 47)) (by decide) e); have m1 := n1.frozen 0; have n2 := (HW.out.2.2.2.2.2.2.1.fresh HC2.out.2.1).alloc (.cells #[.slice A1 y.length c1] 47); have n3 := n2.grown hgr3 (fun e => own_ne_ty (HC2.out.2.2.1.row.alloc (.cells #[.slice A1 y.length c1] 47)) n2 (by decide) e); have m2 := n3.cell 0 (v := .slice XA xh.length xc) rfl; have m3 := n1.cell 0 (v := .slice HA k hc) rfl
              refine hK.out _ _ ?_ (fun hHeld5 => ?_)
              · first | trivial | ((try dsimp only); (exact m2))
              clear hK K hHeld4
              try simp only [Act.put, List.setIfInBounds_toArray, List.set_cons_zero, List.set_cons_succ]
              refine held_take (v := ?_) 8 rfl (by kernel_rfl) (by kernel_rfl) (by kernel_rfl) (fun _ _ _ h => h) (by rfl) ?_ (by assumption) ?_
              rotate_left
              · (intro w hSw; (try dsimp only at hSw); go_simp; try with_reducible rfl)
              try simp only [Act.put, List.setIfInBounds_toArray, List.set_cons_zero, List.set_cons_succ]
              refine held_call 9 (by kernel_rfl) rfl (fun K hK => ?_)
              go_simp
              skip
              refine hK.out _ _ ?_ (fun hHeld6 => ?_)
              · first | trivial | ((try dsimp only); (exact (n3.far (p := ⟨w.heap.size + 1, 0, none⟩) (fun e => hGX e.symm) _).cell 0 rfl))
              clear hK K hHeld5
              try simp only [Act.put, List.setIfInBounds_toArray, List.set_cons_zero, List.set_cons_succ]
              refine wpAnyH_done (by kernel_rfl) ?_ _
              have n4 := HW.out.2.2.2.2.2.1.fresh (HC2.out.2.1)
              have n5 := (n4.alloc (.cells #[.slice A1 y.length c1] 47)).grown hgr3 (fun e => own_ne_ty (HC2.out.2.2.1.row.alloc (.cells #[.slice A1 y.length c1] 47)) (n4.alloc _) (by decide) e)
              have n6 := (HC2.out.2.2.1.alloc (.cells #[.slice A1 y.length c1] 47)).push ho3 hgr3 ((HC2.out.1.base_le (by omega)).alloc _) HX.out.2.2.2.1 (fun g hg e => by have h1 := (HC2.out.1.lt g hg).1; have h2 := (HW.out.2.1.roots.lt g e).2; omega)
              have hb3 : Below w.heap.size w w3 := ((hbl.trans ((HW.out.2.2.2.2.2.2.2.1.mono hsz).trans (HC2.out.2.1.mono (by omega)))).alloc (by omega) _).grown hgr3 (by simp; omega) (fun g hg => (HW.out.2.1.row.lt g hg).1)
              have HZ := Lib.hid (And.intro n1 (And.intro n3 (And.intro n5 (And.intro n6 hb3)))); clear n1 n2 n3 n4 n5 n6 hb3 g0 g1 x0 x2 m1 m2 m3 f0 f1 f2 f3 f4 f5 ho3 hgr3 hat3
              go_wp2_with fail
              go_meet
              exact ⟨A3, A1, c3, c1, ⟨HZ.out.1.set_ 0 _, HZ.out.2.2.2.1.blk HZ.out.1 (by decide) (by decide) _ _, HZ.out.2.1.far (fun e => hGX e.symm) _, HZ.out.2.2.1.far (by simp) _⟩, HZ.out.2.2.2.2.setCell (by simp) _⟩
      case rest =>
        obtain ⟨A3, A1, c3, c1, hV, hbV⟩ := hcut
        clear g0 g1 x0 x2
        have hsV := hbV.size
        have hVX := hV.out.2.2.1.lt
        have hVG := hV.out.1.lt
        have g1 := hV.out.1.cell 1 (v := .slice RA m rc) rfl
        have g0 := hV.out.1.cell 0 (v := .slice A3 (k + 1) c3) rfl
        have x2 := hV.out.2.2.1.cell 2 (v := .bool xb) rfl
        have hrl := HW.out.2.2.2.2.1
        have hhl : (hs' ++ [(⟨A1, c1, y⟩ : SlR)]).length = k + 1 := by rw [List.length_append, HW.out.2.2.2.1]; rfl
        have hhm : (hs' ++ [(⟨A1, c1, y⟩ : SlR)]).map SlR.l = gHas (s.take (k + 1)) := by rw [List.map_append, HW.out.2.2.1, HX.out.1]; rfl
        have HR := Lib.hid (And.intro hrl (And.intro hhl (And.intro hhm HX.out.2.1))); clear hrl hhl hhm HW
        cases xb with
        | false =>
          go_wp2_with fail
          go_roundg (N - (k + 1))
          case measure => omega
          case rel => exact ⟨k + 1, m, by omega, rfl, by go_num, by omega, ⟨⟨A3, RA, c3, rc, _, hV.out.1, by rw [HR.out.2.2.2]; simpa using hV.out.2.1, HR.out.2.2.1, HR.out.2.1, by rw [HR.out.2.2.2]; simpa using HR.out.1⟩, hV.out.2.2.2⟩, hbV⟩
        | true =>
          go_wp2_with (at_builtin; go_must (refine wpList_app (α := Int) (n := m) (m := 1) (B := wc.heap.size + 1) (r := [(k : Int)]) rfl (.tmp 28) (.tmp 30) _ rfl w.heap.size 3 i0 _ 8 Try.underlying47 hi hz0 hz1 hz2 rfl (by decide) int_one (by rfl) HR.out.1 (hV.out.2.1.roots.alloc _) (by rfl) (At.built wc _ _ [(k : Int)] rfl (by intro z hz; simp at hz; subst hz; exact (by unfold I64; omega : I64 (k : Int)))) rfl (by omega) (by simp only [maxLen]; omega) (by simp; omega) ?_); intro A5 c5 w5 ho5 hgr5 hat5; have p1 := (hV.out.1.alloc (.cells #[.int .i64 (k : Int)] 3)).grown hgr5 (fun e => own_ne_ty (hV.out.2.1.roots.alloc (.cells #[.int .i64 (k : Int)] 3)) (hV.out.1.alloc (.cells #[.int .i64 (k : Int)] 3)) (by decide) e); have p2 := (hV.out.2.2.2.alloc (.cells #[.int .i64 (k : Int)] 3)).grown hgr5 (fun e => own_ne_ty (hV.out.2.1.roots.alloc (.cells #[.int .i64 (k : Int)] 3)) (hV.out.2.2.2.alloc (.cells #[.int .i64 (k : Int)] 3)) (by decide) e); have p3 := (hV.out.2.1.alloc (.cells #[.int .i64 (k : Int)] 3)).root ho5 hgr5 hat5; have p4 : Below w.heap.size w w5 := (hbV.alloc (by omega) _).grown hgr5 (by simp; omega) (fun g hg => (hV.out.2.1.roots.lt g hg).1); have s5 := hgr5.size; have q1 := p1.cell 1 (v := .slice RA m rc) rfl; have z1 := p1.frozen 1; have HP := Lib.hid (And.intro p1 (And.intro p2 (And.intro p3 p4))); clear p1 p2 p3 p4 ho5 hgr5 hat5)
          go_roundg (N - (k + 1))
          case measure => omega
          case rel =>
            refine ⟨k + 1, m + 1, by omega, rfl, by go_num, by omega, ⟨⟨A3, A5, c3, c5, _, HP.out.1.set_ 1 _, ?_, HR.out.2.2.1, HR.out.2.1, by rw [HR.out.2.2.2]; simpa using HR.out.1⟩, HP.out.2.1.far (by simp) _⟩, HP.out.2.2.2.setCell (by simp) _⟩
            rw [HR.out.2.2.2]
            simpa using HP.out.2.2.1.blk HP.out.1 (by decide) (by decide) 1 _
    · obtain rfl : k = N := by omega
      have hkk := hkeep.out
      have HKK := Lib.hid hkk; clear hkk hkeep
      obtain ⟨⟨HA, RA, hc, rc, hs', b1, b2, b3, b4, b5⟩, b6⟩ := HKK.out
      have g0 := b1.cell 0 (v := .slice HA k hc) rfl
      have g1 := b1.cell 1 (v := .slice RA m rc) rfl
      have r0 := b6.cell 0 (v := .slice none 0 0) rfl
      have r1 := b6.cell 1 (v := .slice none 0 0) rfl
      have z0 := b6.frozen 0
      have z1 := b6.frozen 1
      have HB := Lib.hid (And.intro b2 (And.intro b3 (And.intro b4 (And.intro b5 b6)))); clear b1 b2 b3 b4 b5 b6 HKK
      go_wp2_with fail
      refine bodyPost_ret (results_cell1 rfl _ _ w.heap.size _ _ _ rfl ((HB.out.2.2.2.2.set_ 0 (.slice HA k hc)).set_ 1 (.slice RA m rc)) Try.underlying49 rfl (by kernel_rfl)) rfl ?_
      obtain ⟨e1, e2, e3, e4, e5⟩ := HB.out
      have hsl : s.take k = s := List.take_of_length_le (by have := H.out.2.2.2.2.1; omega)
      rw [hsl] at e1 e2 e4
      have e1' : GrS ((wr.setCell ⟨w.heap.size, 0, none⟩ (.slice HA k hc)).setCell ⟨w.heap.size, 1, none⟩ (.slice RA m rc)) w.heap.size HA hc RA rc hs' (gRoots s) := (e1.blk e5 (by decide) (by decide) _ _).blk (e5.set_ 0 _) (by decide) (by decide) _ _
      have e6 := e1'.at_
      rw [e2] at e6
      exact ⟨HA, RA, hc, rc, m, by rw [H.out.2.2.2.2.1]; rfl, e6, e1'.roots, e4, (hbl.setCell (Nat.le_refl _) _).setCell (Nat.le_refl _) _⟩

end Go.Proofs.Ytpkccpegdpodoaa
