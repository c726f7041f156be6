/- GM: MkB, Weak2, Weak3, Weak4, MkC, MkD, MkE, Rept, MarkO, MkF, MkG, MkH, MkI, MkJ, MkK, MkL, MkM. -/
import Derived.Test.YtpkccpegdpodoaaGM1
import Derived.Handy
import Derived.Deep.DeepCutAuto
import Derived.Deep.DrawnRows
import Derived.StillTailTactics
import Derived.IntWalk
import Derived.Deep.OwnRows
import Derived.Deep.RegionHeld3
import Derived.Shelf.GgClosure.Gives
import Derived.Laws.Bits64b
import Derived.Laws.CopyOwn
import Derived.BigRegion
import Derived.Outline
import Derived.BigQuiet
/- Graphs of things, built one by one: what a row of rows holds. -/
namespace Go.Proofs.Ytpkccpegdpodoaa
open Go.RowKit

/-- a list of ints as it lies -/
structure SlR where
  A : Option Addr
  c : Nat
  l : List Int
instance : Flat SlR where
  cells x := [.slice x.A x.l.length x.c]
  sz := 1
  len _ := rfl
  ok _ := True
theorem slr_one : ∀ x : SlR, ∀ u ∈ Flat.cells x, u.oneCell' = true := by
  intro x u hu; simp [Flat.cells] at hu; subst hu; rfl

/-- a graph that is being built: rows of its own, and its roots -/
structure GrS (w : World) (base : Nat) (HA : Option Addr) (hc : Nat) (RA : Option Addr) (rc : Nat) (hs : List SlR) (rs : List Int) : Prop where
  row : Own w base 47 HA hc hs
  sub : ∀ (i : Nat) (x : SlR), hs[i]? = some x → Own w base 3 x.A x.c x.l ∧ ∀ k ∈ x.l, I64 k
  roots : Own w base 3 RA rc rs
  apart : ∀ (i : Nat) (x : SlR), hs[i]? = some x → ∀ g, rowOf x.A = some g → rowOf RA ≠ some g

section
variable {w w' : World} {base : Nat} {HA HA' RA RA' : Option Addr} {hc hc' rc rc' : Nat} {hs : List SlR} {rs : List Int}
theorem GrS.start (w : World) (base : Nat) : GrS w base none 0 none 0 [] [] := ⟨Own.nil_, fun i x h => by simp at h, Own.nil_, fun i x h => by simp at h⟩
theorem GrS.fresh (h : GrS w base HA hc RA rc hs rs) (hb : Below w.heap.size w w') : GrS w' base HA hc RA rc hs rs :=
  ⟨h.row.fresh hb, fun i x hx => ⟨(h.sub i x hx).1.fresh hb, (h.sub i x hx).2⟩, h.roots.fresh hb, h.apart⟩
theorem GrS.alloc (h : GrS w base HA hc RA rc hs rs) (o : Obj) : GrS (w.alloc o) base HA hc RA rc hs rs := h.fresh ((Below.refl _ _).alloc (Nat.le_refl _) _)
theorem GrS.drew (h : GrS w base HA hc RA rc hs rs) : GrS w.drew base HA hc RA rc hs rs := ⟨h.row.drew, fun i x hx => ⟨(h.sub i x hx).1.drew, (h.sub i x hx).2⟩, h.roots.drew, h.apart⟩
/-- a store into a block of another type -/
theorem GrS.blk (h : GrS w base HA hc RA rc hs rs) {g : Nat} {t : TypeId} {cs : Array Value} (hg : Blk w g t cs) (h1 : 47 ≠ t) (h2 : 3 ≠ t) (i : Nat) (u : Value) : GrS (w.setCell ⟨g, i, none⟩ u) base HA hc RA rc hs rs :=
  ⟨h.row.setCell _ _ (own_ne_ty h.row hg h1), fun j x hx => ⟨(h.sub j x hx).1.setCell _ _ (own_ne_ty (h.sub j x hx).1 hg h2), (h.sub j x hx).2⟩, h.roots.setCell _ _ (own_ne_ty h.roots hg h2), h.apart⟩
theorem push_case {α : Type} {l : List α} {y : α} {i : Nat} {x : α} (h : (l ++ [y])[i]? = some x) : l[i]? = some x ∨ i = l.length ∧ x = y := by
  have hlt := (List.getElem?_eq_some_iff.1 h).1
  rw [List.length_append, List.length_singleton] at hlt
  by_cases e : i < l.length
  · rw [List.getElem?_append_left e] at h; exact .inl h
  · obtain rfl : i = l.length := by omega
    simp at h; exact .inr ⟨rfl, h.symm⟩
/-- one more row -/
theorem GrS.push {y : SlR} (h : GrS w base HA hc RA rc hs rs) (hrow : Own w' base 47 HA' hc' (hs ++ [y])) (hg : w.grownBy w' (rowOf HA)) (hy : Own w base 3 y.A y.c y.l) (hyk : ∀ k ∈ y.l, I64 k) (hya : ∀ g, rowOf y.A = some g → rowOf RA ≠ some g) :
    GrS w' base HA' hc' RA rc (hs ++ [y]) rs := by
  have grow : ∀ {z : SlR}, Own w base 3 z.A z.c z.l → Own w' base 3 z.A z.c z.l := fun {z} hz => hz.grown hg (fun g hg' e => own_own_ty h.row hz (by decide) g e hg')
  refine ⟨hrow, fun i x hx => ?_, h.roots.grown hg (fun g hg' e => own_own_ty h.row h.roots (by decide) g e hg'), fun i x hx => ?_⟩
  · rcases push_case hx with hx | ⟨-, rfl⟩
    · exact ⟨grow (h.sub i x hx).1, (h.sub i x hx).2⟩
    · exact ⟨grow hy, hyk⟩
  · rcases push_case hx with hx | ⟨-, rfl⟩
    · exact h.apart i x hx
    · exact hya
/-- one more root -/
theorem GrS.root {k : Int} (h : GrS w base HA hc RA rc hs rs) (hrow : Own w' base 3 RA' rc' (rs ++ [k])) (hg : w.grownBy w' (rowOf RA)) (hat : rowOf RA' = rowOf RA ∨ rowOf RA' = some w.heap.size) : GrS w' base HA hc RA' rc' hs (rs ++ [k]) := by
  refine ⟨h.row.grown hg (fun g hg' e => own_own_ty h.row h.roots (by decide) g hg' e), fun i x hx => ⟨(h.sub i x hx).1.grown hg (fun g hg' e => h.apart i x hx g hg' e), (h.sub i x hx).2⟩, hrow, fun i x hx g hg' => ?_⟩
  rcases hat with e | e
  · rw [e]; exact h.apart i x hx g hg'
  · rw [e]; intro e2; injection e2 with e2; have := ((h.sub i x hx).1.lt g hg').2; omega
/-- the rows read as lists -/
theorem GrS.at_ (h : GrS w base HA hc RA rc hs rs) : At w w.heap.size HA (hs.map SlR.l) := by
  intro i x hx
  rw [List.getElem?_map] at hx
  cases hs' : hs[i]? with
  | none => rw [hs'] at hx; cases hx
  | some y =>
    rw [hs'] at hx
    injection hx with hx
    subst hx
    obtain ⟨b, o, cs, hA, hb, hc, hr⟩ := h.row.at_ (fun _ _ => trivial) i y hs'
    have hy := h.sub i y hs'
    have hcap := hy.1.le_cap
    refine ⟨b, o, cs, hA, hb, hc, y.A, y.c, hr.1, hcap.1, hcap.2, fun e => ?_, hy.1.at_ (fun k hk => hy.2 k hk)⟩
    rcases hy.1.2 with ⟨h1, -⟩ | ⟨g', cap, cur, hv, -⟩
    · injection h1
    · rw [e] at hv; injection hv with hv; cases hv
end

theorem infoIntsG : (Try.prog.info? 47).map (fun i => (i.zero, i.size, i.bytes)) = some (some (.slice none 0 0), 1, 24) := by kernel_rfl
theorem gHas_take (s : List It) (k : Nat) (x : It) (h : s[k]? = some x) : gHas (s.take (k + 1)) = gHas (s.take k) ++ [x.has.filter fun k => decide (0 ≤ k)] := by
  unfold gHas; rw [List.take_add_one, h]; simp
theorem gRoots_take (s : List It) (k : Nat) (x : It) (h : s[k]? = some x) : gRoots (s.take (k + 1)) = gRoots (s.take k) ++ if x.held = true then [(k : Int)] else [] := by
  unfold gRoots
  rw [List.map_take, List.map_take]
  exact rising_snoc _ _ _ (by rw [List.getElem?_map, h]; rfl)
theorem gRoots_len (s : List It) : (gRoots s).length ≤ s.length := by
  unfold gRoots; have := rising_length (s.map It.held); rw [List.length_map] at this; exact this

/-- what a graph's function leaves -/
def GrPost (s : List It) (w : World) (e : Ending) (w' : World) : Prop :=
  ∃ (HA RA : Option Addr) (hc rc m : Nat), e = .returned (.agg #[.slice HA s.length hc, .slice RA m rc]) ∧ At w' w'.heap.size HA (gHas s) ∧ Own w' w.heap.size 3 RA rc (gRoots s) ∧ (gRoots s).length = m ∧ Below w.heap.size w w'

theorem egGraph1 : ∀ args w, (callFunc 137 args).run Try.prog w = .ok (.enter 137 args) w := fun _ _ => by kernel_rfl
theorem graph1_any (x : Int) (w : World) : Calls Try.prog 137 #[.int .i64 x] w fun e w' => e = .returned (.bool (decide (x < 0))) ∧ w = w' := by
  go_enter Try.func137, Try.ntmps137
  go_wp2
  go_ret
  exact ⟨rfl, rfl⟩
theorem filter_neg (l : List Int) : (l.filter fun x => !decide (x < 0)) = l.filter fun k => decide (0 ≤ k) := by
  congr 1; funext x
  by_cases h : x < 0
  · have h2 : ¬ 0 ≤ x := by omega
    simp [h, h2]
  · have h2 : 0 ≤ x := by omega
    simp [h, h2]

theorem results_cell1 {P : Program} {fn : Func} {p : Tmp} {ty : TypeId} (h : fn.results = #[.cell p ty]) (tmps : Array Value) (w : World) (g : Nat) (t : TypeId) (cs : Array Value) (d : TypeDesc)
    (hp : tmps.getD p undef = .pointer (some ⟨g, 0, none⟩)) (hg : Blk w g t cs)
    (hu : P.underlying ty = some d) (hd : (match d with | .struct _ | .array _ _ => true | _ => false) = true) (hi : (P.info? ty).map (·.size) = some cs.size) :
    (results fn tmps).run P w = .ok (.agg cs) w := by
  have hp' : tmps[p]?.getD undef = .pointer (some ⟨g, 0, none⟩) := by simpa using hp
  simp [results, h, hp', asAddr, run_loadVar_row w g t ty cs (0, 0) d hg hu hd hi]

/-- the graph's block and what it holds -/
def GrB (w : World) (base G k m : Nat) (s : List It) : Prop :=
  ∃ (HA RA : Option Addr) (hc rc : Nat) (hs : List SlR), Blk w G 49 #[.slice HA k hc, .slice RA m rc] ∧ GrS w base HA hc RA rc hs (gRoots (s.take k)) ∧ hs.map SlR.l = gHas (s.take k) ∧ hs.length = k ∧ (gRoots (s.take k)).length = m

set_option maxHeartbeats 1600000 in
set_option maxRecDepth 100000 in
theorem mgraph_any (w : World) (base p : Nat) (F : Nat → Prop) (kind : Int) (mk : Bool) (s : List It) (h : Mkr w base F p kind mk s) (hs : s.length ≤ 100) (hx : ∀ x ∈ s, x.has.length ≤ 10) :
    Calls Try.prog 57 #[.pointer (some ⟨p, 0, none⟩)] w (GrPost s w) := by
  obtain ⟨i0, hi, hz0, hz1, hz2⟩ := info_parts infoInt
  obtain ⟨j0, hj, hy0, hy1, hy2⟩ := info_parts infoIntsG
  obtain ⟨A, c, l, h1, h2, h3, h4, h5⟩ := h
  have hl : s.length = l.length := by rw [← h5, its_length]
  obtain ⟨N, hN⟩ : ∃ N, l.length = N := ⟨_, rfl⟩
  rw [hN] at h1 hl
  rw [hl] at hs
  have c2 := h1.cell 2 (v := .slice A N c) rfl
  have hplt := h1.lt
  have H := Lib.hid (And.intro h1 (And.intro h2 (And.intro h5 (And.intro hx (And.intro hl hN))))); clear h1 h2 h5 hl hx hN
  go_enter Try.func57, Try.ntmps57
  go_wp2_with fail
  clear c2
  go_loopg [11] N (fun gk iv wr => ∃ (k m : Nat), k ≤ N ∧ gk = N - k ∧ iv = .int .i64 k ∧ m ≤ k ∧ Hid (GrB wr w.heap.size (w.heap.size + 1) k m s ∧ Blk wr w.heap.size 49 #[.slice none 0 0, .slice none 0 0]) ∧ Below w.heap.size w wr)
  case atStart =>
    refine ⟨0, 0, Nat.zero_le _, rfl, rfl, Nat.le_refl _, ⟨⟨none, none, 0, 0, [], Blk.at_ _ _ _ (by simp), GrS.start _ _, by simp [gHas], rfl, by simp [gRoots, rising, risingFrom]⟩, (Blk.new w _ _).alloc _⟩, ((Below.refl _ _).alloc (Nat.le_refl _) _).alloc (by simp) _⟩
  case round =>
    obtain ⟨k, m, hk, rfl, rfl, hm, hkeep, hbl⟩ := hrel
    have hsz := hbl.size
    by_cases hlt : k < N
    · obtain ⟨x, hx⟩ : ∃ x, l[k]? = some x := ⟨_, List.getElem?_eq_getElem (by have := H.out.2.2.2.2.2; omega)⟩
      have hits := H.out.2.1.fresh hbl
      obtain ⟨g, rfl, hg1, hg2, q0, q1, q2⟩ := hits.cells hx
      obtain ⟨hxo, -, hxi, hxs⟩ := hits.sub k x hx
      obtain ⟨XA, xc, xh, xs, xb⟩ := x
      simp only at q0 q1 q2 hxo hxi hxs
      have hsx : s[k]? = some ⟨xh, xs, xb⟩ := by have := its_get hx; rw [H.out.2.2.1] at this; exact this
      have hx10 : xh.length ≤ 10 := H.out.2.2.2.1 _ (List.mem_of_getElem? hsx)
      have b0 : (0 : Int) ≤ (k : Int) := by omega
      have b1 : (k : Int) < (N : Int) := by omega
      have ht1 := gHas_take s k _ hsx
      have ht2 := gRoots_take s k _ hsx
      simp only at ht1 ht2
      obtain ⟨y, hy⟩ : ∃ y, (xh.filter fun k => decide (0 ≤ k)) = y := ⟨_, rfl⟩
      rw [hy] at ht1
      have hyi : ∀ k ∈ y, I64 k := fun k hk => by rw [← hy] at hk; exact hxi k (List.mem_filter.1 hk).1
      have HX := Lib.hid (And.intro ht1 (And.intro ht2 (And.intro hy (And.intro hyi (And.intro hxi (And.intro hx10 hkeep.out))))))
      have HO := Lib.hid hxo
      clear ht1 ht2 hy hyi hxi hxo hsx hx hits hkeep
      go_wp2_with fail
      refine wp_world (fun W => GrB W w.heap.size (w.heap.size + 1) k m s ∧ Blk W w.heap.size 49 #[.slice none 0 0, .slice none 0 0] ∧ Blk W wr.heap.size 187 #[.slice XA xh.length xc, .int .i64 xs, .bool xb] ∧ Below wr.heap.size wr W ∧ wr.heap.size < W.heap.size) ⟨?_, HX.out.2.2.2.2.2.2.2.alloc _, Blk.new _ _ _, (Below.refl _ _).alloc (Nat.le_refl _) _, by simp⟩ ?_
      · obtain ⟨HA, RA, hc, rc, hs', d1, d2, d3⟩ := HX.out.2.2.2.2.2.2.1
        exact ⟨HA, RA, hc, rc, hs', d1.alloc _, d2.alloc _, d3⟩
      rintro W ⟨⟨HA, RA, hc, rc, hs', d1, d2, d3, d4, d5⟩, d6, d7, d8, d9⟩
      have g0 := d1.cell 0 (v := .slice HA k hc) rfl
      have g1 := d1.cell 1 (v := .slice RA m rc) rfl
      have x0 := d7.cell 0 (v := .slice XA xh.length xc) rfl
      have x2 := d7.cell 2 (v := .bool xb) rfl
      have HW := Lib.hid (And.intro d1 (And.intro d2 (And.intro d3 (And.intro d4 (And.intro d5 (And.intro d6 (And.intro d7 (And.intro d8 ((HO.out.fresh d8).at_ HX.out.2.2.2.2.1)))))))))
      have hGX : w.heap.size + 1 ≠ wr.heap.size := fun e => by have := d7; rw [← e] at this; have h0 := d1; unfold Blk at this h0; rw [h0] at this; injection this with this; injection this with _ this _; exact absurd this (by decide)
      have hGW := d1.lt
      clear d1 d2 d3 d4 d5 d6 d7 d8 q0 q1 q2
      go_cut [] from 16 to 24 (fun V => ∃ (A3 A1 : Option Addr) (c3 c1 : Nat), Hid (Blk V (w.heap.size + 1) 49 #[.slice A3 (k + 1) c3, .slice RA m rc] ∧ GrS V w.heap.size A3 c3 RA rc (hs' ++ [⟨A1, c1, y⟩]) (gRoots (s.take k)) ∧ Blk V wr.heap.size 187 #[.slice XA xh.length xc, .int .i64 xs, .bool xb] ∧ Blk V w.heap.size 49 #[.slice none 0 0, .slice none 0 0]) ∧ Below w.heap.size w V)
      case first =>
        refine wp_region_held_drew (S := (fun w' => w'.cell? ⟨wr.heap.size, 0, none⟩ = some (.slice XA xh.length xc))) (by kernel_rfl) ?_ (fun hHeld0 => ?_)
        · first | trivial | ((try dsimp only); (exact x0))
        refine held_take (v := ?_) 0 rfl (by kernel_rfl) (by kernel_rfl) (by kernel_rfl) (fun _ _ _ h => h) (by rfl) ?_ (by assumption) ?_
        rotate_left
        · (intro w hSw; (try dsimp only at hSw); go_simp; try with_reducible rfl)
        try simp only [Act.put, List.setIfInBounds_toArray, List.set_cons_zero, List.set_cons_succ]
        refine held_take (v := ?_) 2 rfl (by kernel_rfl) (by kernel_rfl) (by kernel_rfl) (fun _ _ _ h => h) (by rfl) ?_ (by assumption) ?_
        rotate_left
        · (intro w hSw; (try dsimp only at hSw); go_simp; try with_reducible rfl)
        try simp only [Act.put, List.setIfInBounds_toArray, List.set_cons_zero, List.set_cons_succ]
        refine held_take (v := ?_) 3 rfl (by kernel_rfl) (by kernel_rfl) (by kernel_rfl) (fun _ _ _ h => h) (by rfl) ?_ (by assumption) ?_
        rotate_left
        · (intro w hSw; (try dsimp only at hSw); go_simp; try with_reducible rfl)
        try simp only [Act.put, List.setIfInBounds_toArray, List.set_cons_zero, List.set_cons_succ]
        refine held_call2 1 4 (by kernel_rfl) rfl rfl (fun K hK => ?_) (fun K hK => ?_)
        · go_simp
          skip
          refine hK.out _ _ ?_ (fun hHeld1 => ?_)
          · first | trivial | ((try dsimp only); (exact x0))
          clear hK K hHeld0
          try simp only [Act.put, List.setIfInBounds_toArray, List.set_cons_zero, List.set_cons_succ]
          refine held_call 4 (by kernel_rfl) rfl (fun K hK => ?_)
          go_simp
          go_at_call 136; refine (cloneInt_any XA xc W.heap.size xh.length xh W.drew rfl HW.out.2.2.2.2.2.2.2.2.drew (Nat.le_refl _) (by have := HX.out.2.2.2.2.2.1; omega)).mono ?_; rintro e w1 ⟨A1, c1, rfl, ho1, hb1⟩; have hs1 := hb1.size; have f0 := (hb1.cell (p := ⟨w.heap.size + 1, 0, none⟩) hGW).trans g0; have f1 := (hb1.cell (p := ⟨wr.heap.size, 0, none⟩) d9).trans x0; have HC1 := Lib.hid (And.intro ho1 (undrew hb1)); clear ho1 hb1
          try (go_wp2_with fail)
          refine hK.out _ _ ?_ (fun hHeld2 => ?_)
          · first | trivial | ((try dsimp only); (exact f1))
          clear hK K hHeld1
          try simp only [Act.put, List.setIfInBounds_toArray, List.set_cons_zero, List.set_cons_succ]
          refine held_call 5 (by kernel_rfl) rfl (fun K hK => ?_)
          go_simp
          go_at_call 135; refine (deleteFuncInt_any A1 c1 W.heap.size 137 xh.length #[] (fun x => decide (x < 0)) xh w1 rfl HC1.out.1 (fun x hx => HX.out.2.2.2.2.1 x hx) egGraph1 (fun W' x _ _ _ => (graph1_any x W').mono fun e w' ⟨he, hw⟩ => ⟨he, by subst hw; exact Below.refl _ _⟩)).mono ?_; rintro e w2 ⟨rfl, ho2, hgr2⟩; rw [filter_neg, HX.out.2.2.1] at ho2; rw [filter_neg, HX.out.2.2.1]; have hb2 : Below W.heap.size W w2 := HC1.out.2.grown hgr2 hs1 (fun g hg => (HC1.out.1.lt g hg).1); have hs2 := hb2.size; have f2 := (hb2.cell (p := ⟨w.heap.size + 1, 0, none⟩) hGW).trans g0; have f3 := (hb2.cell (p := ⟨wr.heap.size, 0, none⟩) d9).trans x0; have f4 : (w2.alloc (.cells #[.slice A1 y.length c1] 47)).cell? ⟨w.heap.size + 1, 0, none⟩ = some (.slice HA k hc) := (World.cell?_alloc_lt _ _ _ (by simp; omega)).trans f2; have f5 : (w2.alloc (.cells #[.slice A1 y.length c1] 47)).cell? ⟨wr.heap.size, 0, none⟩ = some (.slice XA xh.length xc) := (World.cell?_alloc_lt _ _ _ (by simp; omega)).trans f3; have HC2 := Lib.hid (And.intro ho2 (And.intro hb2 (And.intro (HW.out.2.1.fresh hb2) (HW.out.1.fresh hb2)))); clear ho2 hgr2 hb2
          try (go_wp2_with fail)
          refine hK.out _ _ ?_ (fun hHeld3 => ?_)
          · first | trivial | ((try dsimp only); (exact f3))
          clear hK K hHeld2
          try simp only [Act.put, List.setIfInBounds_toArray, List.set_cons_zero, List.set_cons_succ]
          refine held_call 6 (by kernel_rfl) rfl (fun K hK => ?_)
          go_simp
          skip
          refine hK.out _ _ ?_ (fun hHeld4 => ?_)
          · first | trivial | ((try dsimp only); (exact f5))
          clear hK K hHeld3
          try simp only [Act.put, List.setIfInBounds_toArray, List.set_cons_zero, List.set_cons_succ]
          refine held_call 7 (by kernel_rfl) rfl (fun K hK => ?_)
          refine step_app (α := SlR) (n := k) (m := 1) (nm := k + 1) (r := [⟨A1, c1, y⟩]) (by rfl) (.tmp 17) (.tmp 22) _ (by rfl) w.heap.size 47 j0 _ 24 Try.underlying46 hj hy0 hy1 hy2 rfl (by decide) slr_one (by rfl) HW.out.2.2.2.1 (HC2.out.2.2.1.row.alloc _) (B := w2.heap.size + 1) (X := some ⟨w2.heap.size, 0, none⟩) (d := 1) (by rfl) (At.built w2 _ _ [(⟨A1, c1, y⟩ : SlR)] rfl (fun _ _ => trivial)) rfl rfl (by omega) (by simp only [maxLen]; omega) (by simp; omega) ?_; intro A3 c3 w3 ho3 hgr3 hat3; have n1 := (HC2.out.2.2.2.alloc (.cells #[.slice A1 y.length c1] 47)).grown hgr3 (fun e => own_ne_ty (HC2.out.2.2.1.row.alloc (.cells #[.slice A1 y.length c1] 47)) (HC2.out.2.2.2.alloc (.cells #[.slice A1 y.length c1] 47)) (by decide) e); have m1 := n1.frozen 0; have n2 := (HW.out.2.2.2.2.2.2.1.fresh HC2.out.2.1).alloc (.cells #[.slice A1 y.length c1] 47); have n3 := n2.grown hgr3 (fun e => own_ne_ty (HC2.out.2.2.1.row.alloc (.cells #[.slice A1 y.length c1] 47)) n2 (by decide) e); have m2 := n3.cell 0 (v := .slice XA xh.length xc) rfl; have m3 := n1.cell 0 (v := .slice HA k hc) rfl
          refine hK.out _ _ ?_ (fun hHeld5 => ?_)
          · first | trivial | ((try dsimp only); (exact m2))
          clear hK K hHeld4
          try simp only [Act.put, List.setIfInBounds_toArray, List.set_cons_zero, List.set_cons_succ]
          refine held_take (v := ?_) 8 rfl (by kernel_rfl) (by kernel_rfl) (by kernel_rfl) (fun _ _ _ h => h) (by rfl) ?_ (by assumption) ?_
          rotate_left
          · (intro w hSw; (try dsimp only at hSw); go_simp; try with_reducible rfl)
          try simp only [Act.put, List.setIfInBounds_toArray, List.set_cons_zero, List.set_cons_succ]
          refine held_call 9 (by kernel_rfl) rfl (fun K hK => ?_)
          go_simp
          skip
          refine hK.out _ _ ?_ (fun hHeld6 => ?_)
          · first | trivial | ((try dsimp only); (exact (n3.far (p := ⟨w.heap.size + 1, 0, none⟩) (fun e => hGX e.symm) _).cell 0 rfl))
          clear hK K hHeld5
          try simp only [Act.put, List.setIfInBounds_toArray, List.set_cons_zero, List.set_cons_succ]
          refine wpAnyH_done (by kernel_rfl) ?_ _
          have n4 := HW.out.2.2.2.2.2.1.fresh (HC2.out.2.1)
          have n5 := (n4.alloc (.cells #[.slice A1 y.length c1] 47)).grown hgr3 (fun e => own_ne_ty (HC2.out.2.2.1.row.alloc (.cells #[.slice A1 y.length c1] 47)) (n4.alloc _) (by decide) e)
          have n6 := (HC2.out.2.2.1.alloc (.cells #[.slice A1 y.length c1] 47)).push ho3 hgr3 ((HC2.out.1.base_le (by omega)).alloc _) HX.out.2.2.2.1 (fun g hg e => by have h1 := (HC2.out.1.lt g hg).1; have h2 := (HW.out.2.1.roots.lt g e).2; omega)
          have hb3 : Below w.heap.size w w3 := ((hbl.trans ((HW.out.2.2.2.2.2.2.2.1.mono hsz).trans (HC2.out.2.1.mono (by omega)))).alloc (by omega) _).grown hgr3 (by simp; omega) (fun g hg => (HW.out.2.1.row.lt g hg).1)
          have HZ := Lib.hid (And.intro n1 (And.intro n3 (And.intro n5 (And.intro n6 hb3)))); clear n1 n2 n3 n4 n5 n6 hb3 g0 g1 x0 x2 m1 m2 m3 f0 f1 f2 f3 f4 f5 ho3 hgr3 hat3
          go_wp2_with fail
          go_meet
          exact ⟨A3, A1, c3, c1, ⟨HZ.out.1.set_ 0 _, HZ.out.2.2.2.1.blk HZ.out.1 (by decide) (by decide) _ _, HZ.out.2.1.far (fun e => hGX e.symm) _, HZ.out.2.2.1.far (by simp) _⟩, HZ.out.2.2.2.2.setCell (by simp) _⟩
        · go_simp
          go_at_call 136; refine (cloneInt_any XA xc W.heap.size xh.length xh W.drew rfl HW.out.2.2.2.2.2.2.2.2.drew (Nat.le_refl _) (by have := HX.out.2.2.2.2.2.1; omega)).mono ?_; rintro e w1 ⟨A1, c1, rfl, ho1, hb1⟩; have hs1 := hb1.size; have f0 := (hb1.cell (p := ⟨w.heap.size + 1, 0, none⟩) hGW).trans g0; have f1 := (hb1.cell (p := ⟨wr.heap.size, 0, none⟩) d9).trans x0; have HC1 := Lib.hid (And.intro ho1 (undrew hb1)); clear ho1 hb1
          try (go_wp2_with fail)
          refine hK.out _ _ ?_ (fun hHeld1 => ?_)
          · first | trivial | ((try dsimp only); (exact f1))
          clear hK K hHeld0
          try simp only [Act.put, List.setIfInBounds_toArray, List.set_cons_zero, List.set_cons_succ]
          refine held_call2 1 5 (by kernel_rfl) rfl rfl (fun K hK => ?_) (fun K hK => ?_)
          · go_simp
            skip
            refine hK.out _ _ ?_ (fun hHeld2 => ?_)
            · first | trivial | ((try dsimp only); (exact f1))
            clear hK K hHeld1
            try simp only [Act.put, List.setIfInBounds_toArray, List.set_cons_zero, List.set_cons_succ]
            refine held_call 5 (by kernel_rfl) rfl (fun K hK => ?_)
            go_simp
            go_at_call 135; refine (deleteFuncInt_any A1 c1 W.heap.size 137 xh.length #[] (fun x => decide (x < 0)) xh w1 rfl HC1.out.1 (fun x hx => HX.out.2.2.2.2.1 x hx) egGraph1 (fun W' x _ _ _ => (graph1_any x W').mono fun e w' ⟨he, hw⟩ => ⟨he, by subst hw; exact Below.refl _ _⟩)).mono ?_; rintro e w2 ⟨rfl, ho2, hgr2⟩; rw [filter_neg, HX.out.2.2.1] at ho2; rw [filter_neg, HX.out.2.2.1]; have hb2 : Below W.heap.size W w2 := HC1.out.2.grown hgr2 hs1 (fun g hg => (HC1.out.1.lt g hg).1); have hs2 := hb2.size; have f2 := (hb2.cell (p := ⟨w.heap.size + 1, 0, none⟩) hGW).trans g0; have f3 := (hb2.cell (p := ⟨wr.heap.size, 0, none⟩) d9).trans x0; have f4 : (w2.alloc (.cells #[.slice A1 y.length c1] 47)).cell? ⟨w.heap.size + 1, 0, none⟩ = some (.slice HA k hc) := (World.cell?_alloc_lt _ _ _ (by simp; omega)).trans f2; have f5 : (w2.alloc (.cells #[.slice A1 y.length c1] 47)).cell? ⟨wr.heap.size, 0, none⟩ = some (.slice XA xh.length xc) := (World.cell?_alloc_lt _ _ _ (by simp; omega)).trans f3; have HC2 := Lib.hid (And.intro ho2 (And.intro hb2 (And.intro (HW.out.2.1.fresh hb2) (HW.out.1.fresh hb2)))); clear ho2 hgr2 hb2
            try (go_wp2_with fail)
            refine hK.out _ _ ?_ (fun hHeld3 => ?_)
            · first | trivial | ((try dsimp only); (exact f3))
            clear hK K hHeld2
            try simp only [Act.put, List.setIfInBounds_toArray, List.set_cons_zero, List.set_cons_succ]
            refine held_call 6 (by kernel_rfl) rfl (fun K hK => ?_)
            go_simp
            skip
            refine hK.out _ _ ?_ (fun hHeld4 => ?_)
            · first | trivial | ((try dsimp only); (exact f5))
            clear hK K hHeld3
            try simp only [Act.put, List.setIfInBounds_toArray, List.set_cons_zero, List.set_cons_succ]
            refine held_call 7 (by kernel_rfl) rfl (fun K hK => ?_)
            refine step_app (α := SlR) (n := k) (m := 1) (nm := k + 1) (r := [⟨A1, c1, y⟩]) (by rfl) (.tmp 17) (.tmp 22) _ (by rfl) w.heap.size 47 j0 _ 24 Try.underlying46 hj hy0 hy1 hy2 rfl (by decide) slr_one (by rfl) HW.out.2.2.2.1 (HC2.out.2.2.1.row.alloc _) (B := w2.heap.size + 1) (X := some ⟨w2.heap.size, 0, none⟩) (d := 1) (by rfl) (At.built w2 _ _ [(⟨A1, c1, y⟩ : SlR)] rfl (fun _ _ => trivial)) rfl rfl (by omega) (by simp only [maxLen]; omega) (by simp; omega) ?_; intro A3 c3 w3 ho3 hgr3 hat3; have n1 := (HC2.out.2.2.2.alloc (.cells #[.slice A1 y.length c1] 47)).grown hgr3 (fun e => own_ne_ty (HC2.out.2.2.1.row.alloc (.cells #[.slice A1 y.length c1] 47)) (HC2.out.2.2.2.alloc (.cells #[.slice A1 y.length c1] 47)) (by decide) e); have m1 := n1.frozen 0; have n2 := (HW.out.2.2.2.2.2.2.1.fresh HC2.out.2.1).alloc (.cells #[.slice A1 y.length c1] 47); have n3 := n2.grown hgr3 (fun e => own_ne_ty (HC2.out.2.2.1.row.alloc (.cells #[.slice A1 y.length c1] 47)) n2 (by decide) e); have m2 := n3.cell 0 (v := .slice XA xh.length xc) rfl; have m3 := n1.cell 0 (v := .slice HA k hc) rfl
            refine hK.out _ _ ?_ (fun hHeld5 => ?_)
            · first | trivial | ((try dsimp only); (exact m2))
            clear hK K hHeld4
            try simp only [Act.put, List.setIfInBounds_toArray, List.set_cons_zero, List.set_cons_succ]
            refine held_take (v := ?_) 8 rfl (by kernel_rfl) (by kernel_rfl) (by kernel_rfl) (fun _ _ _ h => h) (by rfl) ?_ (by assumption) ?_
            rotate_left
            · (intro w hSw; (try dsimp only at hSw); go_simp; try with_reducible rfl)
            try simp only [Act.put, List.setIfInBounds_toArray, List.set_cons_zero, List.set_cons_succ]
            refine held_call 9 (by kernel_rfl) rfl (fun K hK => ?_)
            go_simp
            skip
            refine hK.out _ _ ?_ (fun hHeld6 => ?_)
            · first | trivial | ((try dsimp only); (exact (n3.far (p := ⟨w.heap.size + 1, 0, none⟩) (fun e => hGX e.symm) _).cell 0 rfl))
            clear hK K hHeld5
            try simp only [Act.put, List.setIfInBounds_toArray, List.set_cons_zero, List.set_cons_succ]
            refine wpAnyH_done (by kernel_rfl) ?_ _
            have n4 := HW.out.2.2.2.2.2.1.fresh (HC2.out.2.1)
            have n5 := (n4.alloc (.cells #[.slice A1 y.length c1] 47)).grown hgr3 (fun e => own_ne_ty (HC2.out.2.2.1.row.alloc (.cells #[.slice A1 y.length c1] 47)) (n4.alloc _) (by decide) e)
            have n6 := (HC2.out.2.2.1.alloc (.cells #[.slice A1 y.length c1] 47)).push ho3 hgr3 ((HC2.out.1.base_le (by omega)).alloc _) HX.out.2.2.2.1 (fun g hg e => by have h1 := (HC2.out.1.lt g hg).1; have h2 := (HW.out.2.1.roots.lt g e).2; omega)
            have hb3 : Below w.heap.size w w3 := ((hbl.trans ((HW.out.2.2.2.2.2.2.2.1.mono hsz).trans (HC2.out.2.1.mono (by omega)))).alloc (by omega) _).grown hgr3 (by simp; omega) (fun g hg => (HW.out.2.1.row.lt g hg).1)
            have HZ := Lib.hid (And.intro n1 (And.intro n3 (And.intro n5 (And.intro n6 hb3)))); clear n1 n2 n3 n4 n5 n6 hb3 g0 g1 x0 x2 m1 m2 m3 f0 f1 f2 f3 f4 f5 ho3 hgr3 hat3
            go_wp2_with fail
            go_meet
            exact ⟨A3, A1, c3, c1, ⟨HZ.out.1.set_ 0 _, HZ.out.2.2.2.1.blk HZ.out.1 (by decide) (by decide) _ _, HZ.out.2.1.far (fun e => hGX e.symm) _, HZ.out.2.2.1.far (by simp) _⟩, HZ.out.2.2.2.2.setCell (by simp) _⟩
          · go_simp
            go_at_call 135; refine (deleteFuncInt_any A1 c1 W.heap.size 137 xh.length #[] (fun x => decide (x < 0)) xh w1 rfl HC1.out.1 (fun x hx => HX.out.2.2.2.2.1 x hx) egGraph1 (fun W' x _ _ _ => (graph1_any x W').mono fun e w' ⟨he, hw⟩ => ⟨he, by subst hw; exact Below.refl _ _⟩)).mono ?_; rintro e w2 ⟨rfl, ho2, hgr2⟩; rw [filter_neg, HX.out.2.2.1] at ho2; rw [filter_neg, HX.out.2.2.1]; have hb2 : Below W.heap.size W w2 := HC1.out.2.grown hgr2 hs1 (fun g hg => (HC1.out.1.lt g hg).1); have hs2 := hb2.size; have f2 := (hb2.cell (p := ⟨w.heap.size + 1, 0, none⟩) hGW).trans g0; have f3 := (hb2.cell (p := ⟨wr.heap.size, 0, none⟩) d9).trans x0; have f4 : (w2.alloc (.cells #[.slice A1 y.length c1] 47)).cell? ⟨w.heap.size + 1, 0, none⟩ = some (.slice HA k hc) := (World.cell?_alloc_lt _ _ _ (by simp; omega)).trans f2; have f5 : (w2.alloc (.cells #[.slice A1 y.length c1] 47)).cell? ⟨wr.heap.size, 0, none⟩ = some (.slice XA xh.length xc) := (World.cell?_alloc_lt _ _ _ (by simp; omega)).trans f3; have HC2 := Lib.hid (And.intro ho2 (And.intro hb2 (And.intro (HW.out.2.1.fresh hb2) (HW.out.1.fresh hb2)))); clear ho2 hgr2 hb2
            try (go_wp2_with fail)
            refine hK.out _ _ ?_ (fun hHeld2 => ?_)
            · first | trivial | ((try dsimp only); (exact f3))
            clear hK K hHeld1
            try simp only [Act.put, List.setIfInBounds_toArray, List.set_cons_zero, List.set_cons_succ]
            refine held_call2 1 6 (by kernel_rfl) rfl rfl (fun K hK => ?_) (fun K hK => ?_)
            · go_simp
              skip
              refine hK.out _ _ ?_ (fun hHeld3 => ?_)
              · first | trivial | ((try dsimp only); (exact f3))
              clear hK K hHeld2
              try simp only [Act.put, List.setIfInBounds_toArray, List.set_cons_zero, List.set_cons_succ]
              refine held_call 6 (by kernel_rfl) rfl (fun K hK => ?_)
              go_simp
              skip
              refine hK.out _ _ ?_ (fun hHeld4 => ?_)
              · first | trivial | ((try dsimp only); (exact f5))
              clear hK K hHeld3
              try simp only [Act.put, List.setIfInBounds_toArray, List.set_cons_zero, List.set_cons_succ]
              refine held_call 7 (by kernel_rfl) rfl (fun K hK => ?_)
              refine step_app (α := SlR) (n := k) (m := 1) (nm := k + 1) (r := [⟨A1, c1, y⟩]) (by rfl) (.tmp 17) (.tmp 22) _ (by rfl) w.heap.size 47 j0 _ 24 Try.underlying46 hj hy0 hy1 hy2 rfl (by decide) slr_one (by rfl) HW.out.2.2.2.1 (HC2.out.2.2.1.row.alloc _) (B := w2.heap.size + 1) (X := some ⟨w2.heap.size, 0, none⟩) (d := 1) (by rfl) (At.built w2 _ _ [(⟨A1, c1, y⟩ : SlR)] rfl (fun _ _ => trivial)) rfl rfl (by omega) (by simp only [maxLen]; omega) (by simp; omega) ?_; intro A3 c3 w3 ho3 hgr3 hat3; have n1 := (HC2.out.2.2.2.alloc (.cells #[.slice A1 y.length c1] 47)).grown hgr3 (fun e => own_ne_ty (HC2.out.2.2.1.row.alloc (.cells #[.slice A1 y.length c1] 47)) (HC2.out.2.2.2.alloc (.cells #[.slice A1 y.length c1] 47)) (by decide) e); have m1 := n1.frozen 0; have n2 := (HW.out.2.2.2.2.2.2.1.fresh HC2.out.2.1).alloc (.cells #[.slice A1 y.length c1] 47); have n3 := n2.grown hgr3 (fun e => own_ne_ty (HC2.out.2.2.1.row.alloc (.cells #[.slice A1 y.length c1] 47)) n2 (by decide) e); have m2 := n3.cell 0 (v := .slice XA xh.length xc) rfl; have m3 := n1.cell 0 (v := .slice HA k hc) rfl
              refine hK.out _ _ ?_ (fun hHeld5 => ?_)
              · first | trivial | ((try dsimp only); (exact m2))
              clear hK K hHeld4
              try simp only [Act.put, List.setIfInBounds_toArray, List.set_cons_zero, List.set_cons_succ]
              refine held_take (v := ?_) 8 rfl (by kernel_rfl) (by kernel_rfl) (by kernel_rfl) (fun _ _ _ h => h) (by rfl) ?_ (by assumption) ?_
              rotate_left
              · (intro w hSw; (try dsimp only at hSw); go_simp; try with_reducible rfl)
              try simp only [Act.put, List.setIfInBounds_toArray, List.set_cons_zero, List.set_cons_succ]
              refine held_call 9 (by kernel_rfl) rfl (fun K hK => ?_)
              go_simp
              skip
              refine hK.out _ _ ?_ (fun hHeld6 => ?_)
              · first | trivial | ((try dsimp only); (exact (n3.far (p := ⟨w.heap.size + 1, 0, none⟩) (fun e => hGX e.symm) _).cell 0 rfl))
              clear hK K hHeld5
              try simp only [Act.put, List.setIfInBounds_toArray, List.set_cons_zero, List.set_cons_succ]
              refine wpAnyH_done (by kernel_rfl) ?_ _
              have n4 := HW.out.2.2.2.2.2.1.fresh (HC2.out.2.1)
              have n5 := (n4.alloc (.cells #[.slice A1 y.length c1] 47)).grown hgr3 (fun e => own_ne_ty (HC2.out.2.2.1.row.alloc (.cells #[.slice A1 y.length c1] 47)) (n4.alloc _) (by decide) e)
              have n6 := (HC2.out.2.2.1.alloc (.cells #[.slice A1 y.length c1] 47)).push ho3 hgr3 ((HC2.out.1.base_le (by omega)).alloc _) HX.out.2.2.2.1 (fun g hg e => by have h1 := (HC2.out.1.lt g hg).1; have h2 := (HW.out.2.1.roots.lt g e).2; omega)
              have hb3 : Below w.heap.size w w3 := ((hbl.trans ((HW.out.2.2.2.2.2.2.2.1.mono hsz).trans (HC2.out.2.1.mono (by omega)))).alloc (by omega) _).grown hgr3 (by simp; omega) (fun g hg => (HW.out.2.1.row.lt g hg).1)
              have HZ := Lib.hid (And.intro n1 (And.intro n3 (And.intro n5 (And.intro n6 hb3)))); clear n1 n2 n3 n4 n5 n6 hb3 g0 g1 x0 x2 m1 m2 m3 f0 f1 f2 f3 f4 f5 ho3 hgr3 hat3
              go_wp2_with fail
              go_meet
              exact ⟨A3, A1, c3, c1, ⟨HZ.out.1.set_ 0 _, HZ.out.2.2.2.1.blk HZ.out.1 (by decide) (by decide) _ _, HZ.out.2.1.far (fun e => hGX e.symm) _, HZ.out.2.2.1.far (by simp) _⟩, HZ.out.2.2.2.2.setCell (by simp) _⟩
            · go_simp
              skip
              refine hK.out _ _ ?_ (fun hHeld3 => ?_)
              · first | trivial | ((try dsimp only); (exact f5))
              clear hK K hHeld2
              try simp only [Act.put, List.setIfInBounds_toArray, List.set_cons_zero, List.set_cons_succ]
              refine held_call 1 (by kernel_rfl) rfl (fun K hK => ?_)
              go_simp
              skip
              refine hK.out _ _ ?_ (fun hHeld4 => ?_)
              · first | trivial | ((try dsimp only); (exact f5))
              clear hK K hHeld3
              try simp only [Act.put, List.setIfInBounds_toArray, List.set_cons_zero, List.set_cons_succ]
              refine held_call 7 (by kernel_rfl) rfl (fun K hK => ?_)
              refine step_app (α := SlR) (n := k) (m := 1) (nm := k + 1) (r := [⟨A1, c1, y⟩]) (by rfl) (.tmp 17) (.tmp 22) _ (by rfl) w.heap.size 47 j0 _ 24 Try.underlying46 hj hy0 hy1 hy2 rfl (by decide) slr_one (by rfl) HW.out.2.2.2.1 (HC2.out.2.2.1.row.alloc _) (B := w2.heap.size + 1) (X := some ⟨w2.heap.size, 0, none⟩) (d := 1) (by rfl) (At.built w2 _ _ [(⟨A1, c1, y⟩ : SlR)] rfl (fun _ _ => trivial)) rfl rfl (by omega) (by simp only [maxLen]; omega) (by simp; omega) ?_; intro A3 c3 w3 ho3 hgr3 hat3; have n1 := (HC2.out.2.2.2.alloc (.cells #[.slice A1 y.length c1] 47)).grown hgr3 (fun e => own_ne_ty (HC2.out.2.2.1.row.alloc (.cells #[.slice A1 y.length c1] 47)) (HC2.out.2.2.2.alloc (.cells #[.slice A1 y.length c1] 47)) (by decide) e); have m1 := n1.frozen 0; have n2 := (HW.out.2.2.2.2.2.2.1.fresh HC2.out.2.1).alloc (.cells #[.slice A1 y.length c1] 47); have n3 := n2.grown hgr3 (fun e => own_ne_ty (HC2.out.2.2.1.row.alloc (.cells #[.slice A1 y.length c1] 47)) n2 (by decide) e); have m2 := n3.cell 0 (v := .slice XA xh.length xc) rfl; have m3 := n1.cell 0 (v := .slice HA k hc) rfl
              refine hK.out _ _ ?_ (fun hHeld5 => ?_)
              · first | trivial | ((try dsimp only); (exact m2))
              clear hK K hHeld4
              try simp only [Act.put, List.setIfInBounds_toArray, List.set_cons_zero, List.set_cons_succ]
              refine held_take (v := ?_) 8 rfl (by kernel_rfl) (by kernel_rfl) (by kernel_rfl) (fun _ _ _ h => h) (by rfl) ?_ (by assumption) ?_
              rotate_left
              · (intro w hSw; (try dsimp only at hSw); go_simp; try with_reducible rfl)
              try simp only [Act.put, List.setIfInBounds_toArray, List.set_cons_zero, List.set_cons_succ]
              refine held_call 9 (by kernel_rfl) rfl (fun K hK => ?_)
              go_simp
              skip
              refine hK.out _ _ ?_ (fun hHeld6 => ?_)
              · first | trivial | ((try dsimp only); (exact (n3.far (p := ⟨w.heap.size + 1, 0, none⟩) (fun e => hGX e.symm) _).cell 0 rfl))
              clear hK K hHeld5
              try simp only [Act.put, List.setIfInBounds_toArray, List.set_cons_zero, List.set_cons_succ]
              refine wpAnyH_done (by kernel_rfl) ?_ _
              have n4 := HW.out.2.2.2.2.2.1.fresh (HC2.out.2.1)
              have n5 := (n4.alloc (.cells #[.slice A1 y.length c1] 47)).grown hgr3 (fun e => own_ne_ty (HC2.out.2.2.1.row.alloc (.cells #[.slice A1 y.length c1] 47)) (n4.alloc _) (by decide) e)
              have n6 := (HC2.out.2.2.1.alloc (.cells #[.slice A1 y.length c1] 47)).push ho3 hgr3 ((HC2.out.1.base_le (by omega)).alloc _) HX.out.2.2.2.1 (fun g hg e => by have h1 := (HC2.out.1.lt g hg).1; have h2 := (HW.out.2.1.roots.lt g e).2; omega)
              have hb3 : Below w.heap.size w w3 := ((hbl.trans ((HW.out.2.2.2.2.2.2.2.1.mono hsz).trans (HC2.out.2.1.mono (by omega)))).alloc (by omega) _).grown hgr3 (by simp; omega) (fun g hg => (HW.out.2.1.row.lt g hg).1)
              have HZ := Lib.hid (And.intro n1 (And.intro n3 (And.intro n5 (And.intro n6 hb3)))); clear n1 n2 n3 n4 n5 n6 hb3 g0 g1 x0 x2 m1 m2 m3 f0 f1 f2 f3 f4 f5 ho3 hgr3 hat3
              go_wp2_with fail
              go_meet
              exact ⟨A3, A1, c3, c1, ⟨HZ.out.1.set_ 0 _, HZ.out.2.2.2.1.blk HZ.out.1 (by decide) (by decide) _ _, HZ.out.2.1.far (fun e => hGX e.symm) _, HZ.out.2.2.1.far (by simp) _⟩, HZ.out.2.2.2.2.setCell (by simp) _⟩
      case rest =>
        obtain ⟨A3, A1, c3, c1, hV, hbV⟩ := hcut
        clear g0 g1 x0 x2
        have hsV := hbV.size
        have hVX := hV.out.2.2.1.lt
        have hVG := hV.out.1.lt
        have g1 := hV.out.1.cell 1 (v := .slice RA m rc) rfl
        have g0 := hV.out.1.cell 0 (v := .slice A3 (k + 1) c3) rfl
        have x2 := hV.out.2.2.1.cell 2 (v := .bool xb) rfl
        have hrl := HW.out.2.2.2.2.1
        have hhl : (hs' ++ [(⟨A1, c1, y⟩ : SlR)]).length = k + 1 := by rw [List.length_append, HW.out.2.2.2.1]; rfl
        have hhm : (hs' ++ [(⟨A1, c1, y⟩ : SlR)]).map SlR.l = gHas (s.take (k + 1)) := by rw [List.map_append, HW.out.2.2.1, HX.out.1]; rfl
        have HR := Lib.hid (And.intro hrl (And.intro hhl (And.intro hhm HX.out.2.1))); clear hrl hhl hhm HW
        cases xb with
        | false =>
          go_wp2_with fail
          go_roundg (N - (k + 1))
          case measure => omega
          case rel => exact ⟨k + 1, m, by omega, rfl, by go_num, by omega, ⟨⟨A3, RA, c3, rc, _, hV.out.1, by rw [HR.out.2.2.2]; simpa using hV.out.2.1, HR.out.2.2.1, HR.out.2.1, by rw [HR.out.2.2.2]; simpa using HR.out.1⟩, hV.out.2.2.2⟩, hbV⟩
        | true =>
          go_wp2_with (at_builtin; go_must (refine wpList_app (α := Int) (n := m) (m := 1) (B := wc.heap.size + 1) (r := [(k : Int)]) rfl (.tmp 28) (.tmp 30) _ rfl w.heap.size 3 i0 _ 8 Try.underlying47 hi hz0 hz1 hz2 rfl (by decide) int_one (by rfl) HR.out.1 (hV.out.2.1.roots.alloc _) (by rfl) (At.built wc _ _ [(k : Int)] rfl (by intro z hz; simp at hz; subst hz; exact (by unfold I64; omega : I64 (k : Int)))) rfl (by omega) (by simp only [maxLen]; omega) (by simp; omega) ?_); intro A5 c5 w5 ho5 hgr5 hat5; have p1 := (hV.out.1.alloc (.cells #[.int .i64 (k : Int)] 3)).grown hgr5 (fun e => own_ne_ty (hV.out.2.1.roots.alloc (.cells #[.int .i64 (k : Int)] 3)) (hV.out.1.alloc (.cells #[.int .i64 (k : Int)] 3)) (by decide) e); have p2 := (hV.out.2.2.2.alloc (.cells #[.int .i64 (k : Int)] 3)).grown hgr5 (fun e => own_ne_ty (hV.out.2.1.roots.alloc (.cells #[.int .i64 (k : Int)] 3)) (hV.out.2.2.2.alloc (.cells #[.int .i64 (k : Int)] 3)) (by decide) e); have p3 := (hV.out.2.1.alloc (.cells #[.int .i64 (k : Int)] 3)).root ho5 hgr5 hat5; have p4 : Below w.heap.size w w5 := (hbV.alloc (by omega) _).grown hgr5 (by simp; omega) (fun g hg => (hV.out.2.1.roots.lt g hg).1); have s5 := hgr5.size; have q1 := p1.cell 1 (v := .slice RA m rc) rfl; have z1 := p1.frozen 1; have HP := Lib.hid (And.intro p1 (And.intro p2 (And.intro p3 p4))); clear p1 p2 p3 p4 ho5 hgr5 hat5)
          go_roundg (N - (k + 1))
          case measure => omega
          case rel =>
            refine ⟨k + 1, m + 1, by omega, rfl, by go_num, by omega, ⟨⟨A3, A5, c3, c5, _, HP.out.1.set_ 1 _, ?_, HR.out.2.2.1, HR.out.2.1, by rw [HR.out.2.2.2]; simpa using HR.out.1⟩, HP.out.2.1.far (by simp) _⟩, HP.out.2.2.2.setCell (by simp) _⟩
            rw [HR.out.2.2.2]
            simpa using HP.out.2.2.1.blk HP.out.1 (by decide) (by decide) 1 _
    · obtain rfl : k = N := by omega
      have hkk := hkeep.out
      have HKK := Lib.hid hkk; clear hkk hkeep
      obtain ⟨⟨HA, RA, hc, rc, hs', b1, b2, b3, b4, b5⟩, b6⟩ := HKK.out
      have g0 := b1.cell 0 (v := .slice HA k hc) rfl
      have g1 := b1.cell 1 (v := .slice RA m rc) rfl
      have r0 := b6.cell 0 (v := .slice none 0 0) rfl
      have r1 := b6.cell 1 (v := .slice none 0 0) rfl
      have z0 := b6.frozen 0
      have z1 := b6.frozen 1
      have HB := Lib.hid (And.intro b2 (And.intro b3 (And.intro b4 (And.intro b5 b6)))); clear b1 b2 b3 b4 b5 b6 HKK
      go_wp2_with fail
      refine bodyPost_ret (results_cell1 rfl _ _ w.heap.size _ _ _ rfl ((HB.out.2.2.2.2.set_ 0 (.slice HA k hc)).set_ 1 (.slice RA m rc)) Try.underlying49 rfl (by kernel_rfl)) rfl ?_
      obtain ⟨e1, e2, e3, e4, e5⟩ := HB.out
      have hsl : s.take k = s := List.take_of_length_le (by have := H.out.2.2.2.2.1; omega)
      rw [hsl] at e1 e2 e4
      have e1' : GrS ((wr.setCell ⟨w.heap.size, 0, none⟩ (.slice HA k hc)).setCell ⟨w.heap.size, 1, none⟩ (.slice RA m rc)) w.heap.size HA hc RA rc hs' (gRoots s) := (e1.blk e5 (by decide) (by decide) _ _).blk (e5.set_ 0 _) (by decide) (by decide) _ _
      have e6 := e1'.at_
      rw [e2] at e6
      exact ⟨HA, RA, hc, rc, m, by rw [H.out.2.2.2.2.1]; rfl, e6, e1'.roots, e4, (hbl.setCell (Nat.le_refl _) _).setCell (Nat.le_refl _) _⟩

end Go.Proofs.Ytpkccpegdpodoaa

/- weak: all that is reached; numbers of those that are so; what is wrong with a graph. -/
namespace Go.Proofs.Ytpkccpegdpodoaa
open Go.RowKit

attribute [local go_sem ↓] Go.wp_at_zero Go.wp_at_succ

theorem At.get_ {α : Type} [Enc α] {w : World} {B : Nat} {A : Option Addr} {l : List α} {k : Nat} {x : α} (h : At w B A l) (hx : l[k]? = some x) : ∃ b o cs, A = some ⟨b, o, none⟩ ∧ b < B ∧ CellsAt w b (o + k * Enc.sz α) cs ∧ Enc.rd w B cs x := h k x hx

set_option maxHeartbeats 1600000 in
set_option maxRecDepth 100000 in
theorem reachAll_any (R base B hc rc hn rn : Nat) (HA RA : Option Addr) (has : List (List Int)) (src : List Int) (pairs : List (Int × Int)) (seen : List Bool) (todo : List Int) (w : World) (h : Rch w base R (.slice HA has.length hc) (.slice RA rn rc) seen todo) (hh : At w B HA has) (hB : B ≤ base)
    (hright : Right has) (hinv : Inv has src pairs [] seen todo) (hlen : has.length ≤ 1000) (htl : todo.length ≤ 10000) (hhl : ∀ l ∈ has, l.length ≤ 1000) :
    Calls Try.prog 169 #[.pointer (some ⟨R, 0, none⟩)] w fun e w' => e = .returned (.tuple #[]) ∧ (∃ seen', Rch w' base R (.slice HA has.length hc) (.slice RA rn rc) seen' [] ∧ Inv has src pairs [] seen' [] ∧ Grows seen seen') ∧ Below base w w' := by
  have HH := Lib.hid hh; clear hh
  have HR := Lib.hid hright; clear hright
  have HHL := Lib.hid hhl; clear hhl
  have hun := unseen_le seen
  have hsl := hinv.len
  have HST := Lib.hid (And.intro h hinv); clear h hinv
  go_enter Try.func169, Try.ntmps169
  go_wp2_with fail
  go_loopg [] (2 * unseen seen + todo.length) (fun gk wr => ∃ (s1 : List Bool) (t1 : List Int), gk = 2 * unseen s1 + t1.length ∧ 2 * unseen s1 + t1.length ≤ 2 * unseen seen + todo.length ∧ Hid (Rch wr base R (.slice HA has.length hc) (.slice RA rn rc) s1 t1 ∧ Inv has src pairs [] s1 t1 ∧ Grows seen s1) ∧ Below base w wr)
  case atStart => exact ⟨seen, todo, rfl, Nat.le_refl _, ⟨HST.out.1, HST.out.2, Grows.refl _⟩, Below.refl _ _⟩
  case round =>
    obtain ⟨s1, t1, rfl, hle, hkeep, hbl⟩ := hrel
    obtain ⟨k1, k2, k3⟩ := hkeep.out
    obtain ⟨S, T, c, d, r1, r2, r3, r4⟩ := k1
    have hRlt := r1.lt
    have q3 := r1.cell 3 rfl
    have z3 := r1.frozen 3
    by_cases hlt : 0 < t1.length
    · obtain ⟨t0, x, rfl⟩ : ∃ t0 x, t1 = t0 ++ [x] := ⟨t1.dropLast, t1.getLast (List.ne_nil_of_length_pos hlt), (List.dropLast_concat_getLast _).symm⟩
      obtain ⟨n, rfl, hn⟩ := k2.todo_ x (by simp)
      have hnl : n < has.length := by rw [← k2.len]; exact (List.getElem?_eq_some_iff.1 hn).1
      obtain ⟨l, hl⟩ : ∃ l, has[n]? = some l := ⟨_, List.getElem?_eq_getElem hnl⟩
      have hstep := k2.step HR.out (l := l) (by simpa using hl)
      have htlen : (t0 ++ [(n : Int)]).length = t0.length + 1 := by simp
      rw [htlen] at q3 hle hstep
      obtain ⟨g, rfl, hg1, hg2⟩ := r3.some_ (by omega)
      have ct := r3.cell_int (i := t0.length) (b := (n : Int)) (by simp)
      have hcap := r3.le_cap.1
      rw [htlen] at hcap
      have r3' := r3.take_ t0.length (by omega)
      rw [List.take_left' rfl] at r3'
      have hll := HHL.out l (List.mem_of_getElem? hl)
      have hrl : RightL s1.length l := fun y hy => by obtain ⟨k, h1, h2⟩ := HR.out l (List.mem_of_getElem? hl) y hy; exact ⟨k, h1, by rw [k2.len]; exact h2⟩
      have hs1l := k2.len
      have HK := Lib.hid (And.intro r1 (And.intro r2 (And.intro r3' (And.intro hstep (And.intro k3 (And.intro hl (And.intro hrl hs1l)))))))
      have htl0 : t0.length + 1 ≤ d := hcap
      have w1 : (0 : Int) ≤ ((t0.length : Int) + 1) - 1 := by omega
      clear r1 r2 r3 r3' hstep k3 k2 hrl htlen hn hl hkeep
      go_wp2_with fail
      have hwr : IntKind.i64.wrap ((t0.length : Int) + 1 - 1) = (t0.length : Int) := by rw [IntWalk.i64_in _ (by omega)]; omega
      have w2 : (0 : Int) ≤ (t0.length : Int) := by omega
      have w3 : (t0.length : Int) < (t0.length : Int) + 1 := by omega
      have w4 : (t0.length : Int) ≤ (t0.length : Int) + 1 := by omega
      go_quiet (fail)
      go_wp2_with fail
      have w5 : t0.length ≤ d := by omega
      refine wp_world (fun W => Blk W R 214 #[.slice HA has.length hc, .slice RA rn rc, .slice S s1.length c, .slice (some ⟨g, 0, none⟩) (t0.length + 1) d] ∧ Own W base 4 S c s1 ∧ Own W base 3 (some ⟨g, 0, none⟩) d t0 ∧ Below base w W) ⟨by have := HK.out.1.drewN; simp only [List.length_append, List.length_singleton] at this; exact this _, HK.out.2.1.drewN _, HK.out.2.2.1.drewN _, below_drewN hbl _⟩ ?_
      rintro W ⟨m1, m2, m3, m4⟩
      have p3 := m1.cell 3 rfl
      have p0 := m1.cell 0 rfl
      obtain ⟨b, o, l', A', c', rfl, hb, hl2, hcell, hat', hlc, hmx⟩ := (HH.out.below (m4.mono hB)).slice_ hnl
      rw [HK.out.2.2.2.2.2.1] at hl2; injection hl2 with hl2; subst hl2
      have hbR : b < R := by omega
      have hbR2 : b ≠ R := by omega
      have pz := m1.frozen 3
      have n1 := own_ne_ty m2 m1 (by decide)
      have n2 := own_ne_ty m3 m1 (by decide)
      have HW := Lib.hid (And.intro (m1.set_ 3 (.slice (some ⟨g, 0, none⟩) t0.length d)) (And.intro (m2.setCell ⟨R, 3, none⟩ (.slice (some ⟨g, 0, none⟩) t0.length d) n1) (And.intro (m3.setCell ⟨R, 3, none⟩ (.slice (some ⟨g, 0, none⟩) t0.length d) n2) (m4.setCell (p := ⟨R, 3, none⟩) r4 (.slice (some ⟨g, 0, none⟩) t0.length d)))))
      have hnl0 : (0 : Int) ≤ (n : Int) := by omega
      have hnl1 : (n : Int) < (has.length : Int) := by omega
      have hcap2 : b ≠ R := by omega
      clear m1 m2 m3 m4 n1 n2 q3 z3
      have hwr2 : IntKind.i64.wrap (t0.length : Int) = (t0.length : Int) := IntWalk.i64_in _ (by clear hwr; omega)
      go_still_tail 14, (by kernel_rfl)
      clear hwr hwr2
      change wpList _ _ _ _ _ (World.drew _)
      go_wp2_with fail
      have hRch : Rch (W.setCell ⟨R, 3, none⟩ (.slice (some ⟨g, 0, none⟩) t0.length d)).drew base R (.slice (some ⟨b, o, none⟩) has.length hc) (.slice RA rn rc) s1 t0 := ⟨S, some ⟨g, 0, none⟩, c, d, by have := HW.out.1.drew; simpa using this, HW.out.2.1.drew, HW.out.2.2.1.drew, r4⟩
      have hat2 : At (W.setCell ⟨R, 3, none⟩ (.slice (some ⟨g, 0, none⟩) t0.length d)).drew B A' l := (hat'.setCell (p := ⟨R, 3, none⟩) (by simp; omega) _).drew
      have hll := HHL.out l (List.mem_of_getElem? HK.out.2.2.2.2.2.1)
      refine (reach_old R base B c' A' _ _ s1 t0 l _ hRch hat2 hB HK.out.2.2.2.2.2.2.1 (by omega) (by omega)).mono ?_
      rintro e w8 ⟨rfl, hr8, hb8⟩
      have hb8' : Below base W w8 := (((Below.refl _ _).setCell (p := ⟨R, 3, none⟩) r4 _).drew).trans hb8
      have HR8 := Lib.hid (And.intro hr8 (HW.out.2.2.2.trans (undrew hb8))); clear hr8 hRch hat2 hat' hb8 hb8'
      obtain ⟨s2, t2, hst⟩ : ∃ s2 t2, reachL l (s1, t0) = (s2, t2) := ⟨_, _, rfl⟩
      rw [hst] at HR8
      have HSS := HK.out.2.2.2.1
      rw [hst] at HSS
      have hms : 2 * unseen s2 + t2.length < 2 * unseen s1 + (t0.length + 1) := HSS.2.2
      have HS2 := Lib.hid HSS; clear HSS hst
      go_wp2_with fail
      go_roundg (2 * unseen s2 + t2.length)
      case measure => first | omega | (rw [List.length_append, List.length_singleton]; omega)
      case rel => exact ⟨s2, t2, rfl, by omega, ⟨HR8.out.1, HS2.out.1, HK.out.2.2.2.2.1.trans HS2.out.2.1⟩, HR8.out.2⟩
    · obtain rfl : t1 = [] := List.eq_nil_of_length_eq_zero (by omega)
      have HK := Lib.hid (And.intro r1 (And.intro r2 (And.intro r3 (And.intro k2 k3)))); clear r1 r2 r3 k2 k3 hkeep
      go_wp2_with fail
      go_end0
      obtain ⟨f1, f2, f3, f4, f5⟩ := HK.out
      exact ⟨rfl, ⟨s1, ⟨S, T, c, d, f1, f2, f3, r4⟩, f4, f5⟩, hbl⟩

end Go.Proofs.Ytpkccpegdpodoaa

/- weak.From: what is reached; numbers of those that are so. -/
namespace Go.Proofs.Ytpkccpegdpodoaa
open Go.RowKit

theorem madeBool (n : Nat) : (madeCells #[.bool false] n).toList = flat (List.replicate n false) := by
  apply List.ext_getElem?
  intro i
  have e : flat (List.replicate n false) = List.replicate n (Value.bool false) := by
    induction n with
    | zero => rfl
    | succ n ih => rw [List.replicate_succ, flat_cons, ih, List.replicate_succ]; rfl
  rw [e]
  simp only [madeCells, Array.toList_map, Array.toList_range, List.getElem?_map, List.getElem?_replicate]
  by_cases h : i < n
  · simp [h, Nat.mod_one]
  · simp [h]
theorem own_made (w : World) (base : Nat) (e : TypeId) (n : Nat) (hb : base ≤ w.heap.size) (hn : n ≤ maxLen) : Own (w.alloc (.cells (madeCells #[.bool false] n) e)) base e (some ⟨w.heap.size, 0, none⟩) n (List.replicate n false) := by
  refine ⟨flat_length _, .inr ⟨w.heap.size, n, madeCells #[.bool false] n, by rw [List.length_replicate], hb, heap_alloc_new w _, by simp, hn, by simp [size_madeCells, Flat.sz], ?_⟩⟩
  rw [← madeBool, List.take_of_length_le (by simp [size_madeCells, Flat.sz])]
theorem infoBool : (Try.prog.info? 4).map (fun i => (i.zero, i.size, i.bytes)) = some (some (.bool false), 1, 1) := by kernel_rfl

theorem replicate_len (n : Nat) : (List.replicate n false).length = n := by simp
theorem fromL_start {has : List (List Int)} {src : List Int} (pairs : List (Int × Int)) (hs : RightL has.length src) : Inv has src pairs [] (reachL src (List.replicate has.length false, [])).1 (reachL src (List.replicate has.length false, [])).2 ∧ (∀ k : Nat, (k : Int) ∈ src → (reachL src (List.replicate has.length false, [])).1[k]? = some true) ∧ (reachL src (List.replicate has.length false, [])).2.length ≤ 2 * has.length := by
  obtain ⟨h1, h2, h3, h4⟩ := Inv.reachL (st := (List.replicate has.length false, [])) (l := src) (Inv.start has src pairs) (fun x hx => by
    obtain ⟨k, rfl, hk⟩ := hs x hx
    exact ⟨k, rfl, hk, .root hx⟩)
  refine ⟨h1, h3, ?_⟩
  have := unseen_le (List.replicate has.length false)
  rw [replicate_len] at this
  simp only [List.length_nil] at h4
  omega

set_option maxHeartbeats 1600000 in
set_option maxRecDepth 100000 in
theorem wfrom_any (B hc rc lc rn : Nat) (HA RA LA : Option Addr) (has : List (List Int)) (l : List Int) (w : World) (hh : At w B HA has) (hl : At w B LA l) (hB : B ≤ w.heap.size)
    (hright : Right has) (hsrc : RightL has.length l) (hlen : has.length ≤ 100) (hll : l.length ≤ 1000) (hhl : ∀ l ∈ has, l.length ≤ 10) :
    Calls Try.prog 105 #[.agg #[.slice HA has.length hc, .slice RA rn rc], .slice LA l.length lc] w fun e w' => ∃ S c, e = .returned (.slice S has.length c) ∧ Own w' w.heap.size 4 S c (fromL has l []) ∧ Below w.heap.size w w' := by
  have hmk := Go.run_make_row' (P := Try.prog) 60 4 (.bool false) 1 Try.underlying60 infoBool rfl .i64 .i64 has.length (by omega) (by omega)
  have hst := fromL_start [] hsrc
  have HH := Lib.hid (And.intro hh (And.intro hl (And.intro hright (And.intro hsrc (And.intro hhl hst))))); clear hh hl hright hsrc hhl hst
  go_enter Try.func105, Try.ntmps105
  go_wp2_with fail
  refine wp_world (fun W => Blk W w.heap.size 49 #[.slice HA has.length hc, .slice RA rn rc] ∧ Below w.heap.size w W ∧ w.heap.size + 1 ≤ W.heap.size) ⟨Blk.new _ _ _, (Below.refl _ _).alloc (Nat.le_refl _) _, by simp⟩ ?_
  rintro W ⟨hG, hb0, hs0⟩
  have g0 := hG.cell 0 rfl
  have g1 := hG.cell 1 rfl
  have lt0 : w.heap.size < W.heap.size := by omega
  clear hG
  go_region_held3 (fun w' => w'.cell? ⟨w.heap.size, 0, none⟩ = some (.slice HA has.length hc) ∧ w'.cell? ⟨w.heap.size, 1, none⟩ = some (.slice RA rn rc)) (go_keep) (fail)
  go_wp2_with fail
  refine calls_world (fun V => Rch V W.heap.size (W.heap.size + 1) (.slice HA has.length hc) (.slice RA rn rc) (List.replicate has.length false) [] ∧ Below w.heap.size w V) ⟨?_, ?_⟩ ?_
  · have o1 := own_made W W.heap.size 4 has.length (Nat.le_refl _) (by simp only [maxLen]; omega)
    refine ⟨some ⟨W.heap.size, 0, none⟩, none, has.length, 0, ?_, (o1.alloc _).drew, Own.nil_, by omega⟩
    rw [List.length_replicate]
    exact (Blk.at_ (W.alloc _) _ _ (by simp)).drew
  · exact ((hb0.alloc (by omega) _).alloc (by simp; omega) _).drew
  clear g0 g1 hmk
  rintro V ⟨hR, hbV⟩
  have hsV := hR.lt
  refine (reach_old (W.heap.size + 1) W.heap.size B lc LA _ _ (List.replicate has.length false) [] l V hR (HH.out.2.1.below (hbV.mono hB)) (by omega) (by rw [List.length_replicate]; exact HH.out.2.2.2.1) (by simp; omega) (by simp; omega)).mono ?_
  rintro e w1 ⟨rfl, hR1, hb1⟩
  have hbl1 := hbV.trans (hb1.mono (by omega))
  obtain ⟨s1, t1, hst⟩ : ∃ s1 t1, reachL l (List.replicate has.length false, []) = (s1, t1) := ⟨_, _, rfl⟩
  have hH := HH.out.2.2.2.2.2
  rw [hst] at hR1 hH
  have htl : t1.length ≤ 2 * has.length := hH.2.2
  have H1 := Lib.hid (And.intro hR1 hH); clear hR1 hH hR hst
  go_wp2_with fail
  refine (reachAll_any (W.heap.size + 1) W.heap.size B hc rc has.length rn HA RA has l [] s1 t1 w1 H1.out.1 (HH.out.1.below (hbl1.mono hB)) (by omega) HH.out.2.2.1 H1.out.2.1 (by omega) (by omega) (fun l hl => by have := HH.out.2.2.2.2.1 l hl; omega)).mono ?_
  rintro e w2 ⟨rfl, ⟨s2, hR2, hI2, hG2⟩, hb2⟩
  have hbl2 := hbl1.trans (hb2.mono (by omega))
  obtain ⟨S, T, c, d, r1, r2, r3, r4⟩ := hR2
  have hfin := hI2.done (fun n hn => hG2 n (H1.out.2.2.1 n hn)) (fun k v _ hp => by simp at hp)
  have hsl := hI2.len
  rw [hsl] at r1
  rw [hfin] at r2
  have q2 := r1.cell 2 rfl
  have HO := Lib.hid r2
  clear r1 r2 r3 hI2 hG2 hfin
  go_wp2_with fail
  go_ret
  exact ⟨S, c, rfl, HO.out.base_le (by omega), hbl2⟩

set_option maxHeartbeats 800000 in
set_option maxRecDepth 100000 in
theorem wrising_any (A : Option Addr) (c B n : Nat) (l : List Bool) (w : World) (hn : l.length = n) (h : At w B A l) (hB : B ≤ w.heap.size) (hl : n ≤ 1000000) :
    Calls Try.prog 104 #[.slice A n c] w fun e w' => ∃ A' c', e = .returned (.slice A' (rising l).length c') ∧ Own w' w.heap.size 3 A' c' (rising l) ∧ Below w.heap.size w w' := by
  obtain ⟨i0, hi, hz0, hz1, hz2⟩ := info_parts infoInt
  have H := Lib.hid (And.intro h hn); clear h hn
  go_enter Try.func104, Try.ntmps104
  go_wp2
  go_loopg [3, 8] (n) (fun gk ov iv wr => ∃ (k : Nat) (A1 : Option Addr) (c1 : Nat), k ≤ n ∧ gk = n - k ∧ iv = .int .i64 k ∧ ov = .slice A1 (rising (l.take k)).length c1 ∧ Hid (Own wr w.heap.size 3 A1 c1 (rising (l.take k))) ∧ Below w.heap.size w wr)
  case atStart => exact ⟨0, none, 0, Nat.zero_le _, rfl, rfl, rfl, Own.nil_, Below.refl _ _⟩
  case round =>
    obtain ⟨k, A1, c1, hk, rfl, rfl, rfl, hkeep, hbl⟩ := hrel
    have hsz := hbl.size
    by_cases hlt : k < n
    · obtain ⟨b, o, x, rfl, hb, hx, h0⟩ := (H.out.1.below (hbl.mono hB)).bool_ (by have := H.out.2; omega : k < l.length)
      have hsn := rising_snoc l k x hx
      have hrl : (rising (l.take k)).length ≤ k := by have := rising_length (l.take k); rw [List.length_take] at this; omega
      cases x with
      | false =>
        rw [if_neg (by simp), List.append_nil] at hsn
        have HS := Lib.hid hsn; clear hsn hx
        go_wp2_with fail
        go_roundg (n - (k + 1))
        case measure => omega
        case rel => exact ⟨k + 1, A1, c1, by omega, rfl, by go_num, by rw [HS.out], by unfold Hid; rw [HS.out]; exact hkeep.out, hbl⟩
      | true =>
        rw [if_pos rfl] at hsn
        have HS := Lib.hid hsn; clear hsn hx
        go_wp2_with (at_builtin; go_must (refine wpList_app (α := Int) (m := 1) (B := wr.heap.size + 1) (r := [(k : Int)]) rfl (.tmp 14) (.tmp 16) _ rfl w.heap.size 3 i0 _ 8 Try.underlying47 hi hz0 hz1 hz2 rfl (by decide) int_one (by rfl) rfl (hkeep.out.alloc _) (by rfl) ?_ rfl (by omega) (by simp only [maxLen]; omega) (by simp; omega) ?_))
        · exact At.built wr _ _ [(k : Int)] rfl (by intro z hz; simp at hz; subst hz; exact (by unfold I64; omega : I64 (k : Int)))
        intro A2 c2 w2 hown2 hgr2 hat2
        have hbl2 : Below w.heap.size w w2 := (hbl.alloc hsz _).grown hgr2 (by simp; omega) (fun g hg => (hkeep.out.lt g hg).1)
        have HO2 := Lib.hid hown2; clear hown2
        go_wp2_with fail
        go_roundg (n - (k + 1))
        case measure => omega
        case rel => exact ⟨k + 1, A2, c2, by omega, rfl, by go_num, by rw [HS.out, List.length_append]; rfl, by unfold Hid; rw [HS.out]; exact HO2.out, hbl2⟩
    · have hk2 := hkeep.out
      rw [List.take_of_length_le (by have := H.out.2; omega)] at hk2
      have hk3 : l.take k = l := List.take_of_length_le (by have := H.out.2; omega)
      rw [hk3]
      have HK := Lib.hid hk2; clear hk2 hkeep hk3
      go_wp2_with fail
      go_ret
      exact ⟨A1, c1, rfl, HK.out, hbl⟩

set_option maxHeartbeats 800000 in
set_option maxRecDepth 100000 in
theorem rrising_any (A : Option Addr) (c B n : Nat) (l : List Bool) (w : World) (hn : l.length = n) (h : At w B A l) (hB : B ≤ w.heap.size) (hl : n ≤ 1000000) :
    Calls Try.prog 32 #[.slice A n c] w fun e w' => ∃ A' c', e = .returned (.slice A' (rising l).length c') ∧ Own w' w.heap.size 3 A' c' (rising l) ∧ Below w.heap.size w w' := by
  obtain ⟨i0, hi, hz0, hz1, hz2⟩ := info_parts infoInt
  have H := Lib.hid (And.intro h hn); clear h hn
  go_enter Try.func32, Try.ntmps32
  go_wp2
  go_loopg [3, 8] (n) (fun gk ov iv wr => ∃ (k : Nat) (A1 : Option Addr) (c1 : Nat), k ≤ n ∧ gk = n - k ∧ iv = .int .i64 k ∧ ov = .slice A1 (rising (l.take k)).length c1 ∧ Hid (Own wr w.heap.size 3 A1 c1 (rising (l.take k))) ∧ Below w.heap.size w wr)
  case atStart => exact ⟨0, none, 0, Nat.zero_le _, rfl, rfl, rfl, Own.nil_, Below.refl _ _⟩
  case round =>
    obtain ⟨k, A1, c1, hk, rfl, rfl, rfl, hkeep, hbl⟩ := hrel
    have hsz := hbl.size
    by_cases hlt : k < n
    · obtain ⟨b, o, x, rfl, hb, hx, h0⟩ := (H.out.1.below (hbl.mono hB)).bool_ (by have := H.out.2; omega : k < l.length)
      have hsn := rising_snoc l k x hx
      have hrl : (rising (l.take k)).length ≤ k := by have := rising_length (l.take k); rw [List.length_take] at this; omega
      cases x with
      | false =>
        rw [if_neg (by simp), List.append_nil] at hsn
        have HS := Lib.hid hsn; clear hsn hx
        go_wp2_with fail
        go_roundg (n - (k + 1))
        case measure => omega
        case rel => exact ⟨k + 1, A1, c1, by omega, rfl, by go_num, by rw [HS.out], by unfold Hid; rw [HS.out]; exact hkeep.out, hbl⟩
      | true =>
        rw [if_pos rfl] at hsn
        have HS := Lib.hid hsn; clear hsn hx
        go_wp2_with (at_builtin; go_must (refine wpList_app (α := Int) (m := 1) (B := wr.heap.size + 1) (r := [(k : Int)]) rfl (.tmp 14) (.tmp 16) _ rfl w.heap.size 3 i0 _ 8 Try.underlying47 hi hz0 hz1 hz2 rfl (by decide) int_one (by rfl) rfl (hkeep.out.alloc _) (by rfl) ?_ rfl (by omega) (by simp only [maxLen]; omega) (by simp; omega) ?_))
        · exact At.built wr _ _ [(k : Int)] rfl (by intro z hz; simp at hz; subst hz; exact (by unfold I64; omega : I64 (k : Int)))
        intro A2 c2 w2 hown2 hgr2 hat2
        have hbl2 : Below w.heap.size w w2 := (hbl.alloc hsz _).grown hgr2 (by simp; omega) (fun g hg => (hkeep.out.lt g hg).1)
        have HO2 := Lib.hid hown2; clear hown2
        go_wp2_with fail
        go_roundg (n - (k + 1))
        case measure => omega
        case rel => exact ⟨k + 1, A2, c2, by omega, rfl, by go_num, by rw [HS.out, List.length_append]; rfl, by unfold Hid; rw [HS.out]; exact HO2.out, hbl2⟩
    · have hk2 := hkeep.out
      rw [List.take_of_length_le (by have := H.out.2; omega)] at hk2
      have hk3 : l.take k = l := List.take_of_length_le (by have := H.out.2; omega)
      rw [hk3]
      have HK := Lib.hid hk2; clear hk2 hkeep hk3
      go_wp2_with fail
      go_ret
      exact ⟨A1, c1, rfl, HK.out, hbl⟩

end Go.Proofs.Ytpkccpegdpodoaa

/- The reference's From: what is reached, round by round. -/
namespace Go.Proofs.Ytpkccpegdpodoaa
open Go.RowKit

theorem ret_slice {A : Option Addr} {n m c : Nat} (h : n = m) : Ending.returned (.slice A n c) = .returned (.slice A m c) := by rw [h]
theorem egSee : ∀ args w, (callFunc 108 args).run Try.prog w = .ok (.enter 108 args) w := fun _ _ => by kernel_rfl

/-- what a round keeps in the middle of it -/
def MidSt (has : List (List Int)) (l : List Int) (pairs : List (Int × Int)) (B : Nat) (s0 : List Bool) (S : World → List Bool → Bool → Prop) (i j q : Nat) (w : World) (s : List Bool) (m : Bool) : Prop :=
  S w s m ∧ RInv has l pairs s0 s m ∧ EClosed has s0 s i j ∧ PClosed pairs s0 s q
/-- the state of a round: the graph, what was seen, whether there is more -/
def SeeSt (w : World) (base G V M gS c : Nat) (hv rv : Value) (s : List Bool) (m : Bool) : Prop :=
  Blk w G 49 #[hv, rv] ∧ Blk w V 60 #[.slice (some ⟨gS, 0, none⟩) s.length c] ∧ Own w base 4 (some ⟨gS, 0, none⟩) c s ∧ Blk w M 4 #[.bool m] ∧ gS ≠ M ∧ base ≤ M ∧ base ≤ gS

theorem SeeSt.alloc {w : World} {base G V M gS c : Nat} {hv rv : Value} {s : List Bool} {m : Bool} (h : SeeSt w base G V M gS c hv rv s m) (o : Obj) : SeeSt (w.alloc o) base G V M gS c hv rv s m :=
  ⟨h.1.alloc _, h.2.1.alloc _, h.2.2.1.alloc _, h.2.2.2.1.alloc _, h.2.2.2.2⟩
theorem SeeSt.seen {w : World} {base G V M gS c : Nat} {hv rv : Value} {s : List Bool} {m m' : Bool} (h : SeeSt w base G V M gS c hv rv s m) {k : Nat} (hk : k < s.length) :
    SeeSt ((w.setCell ⟨M, 0, none⟩ (.bool m')).setCell ⟨gS, k, none⟩ (.bool true)) base G V M gS c hv rv (s.set k true) m' := by
  obtain ⟨h1, h2, h3, h4, h5, h6, h7⟩ := h
  have a1 : G ≠ M := fun e => by subst e; unfold Blk at h1 h4; rw [h1] at h4; injection h4 with h4; injection h4 with _ h4 _; exact absurd h4 (by decide)
  have a2 : V ≠ M := fun e => by subst e; unfold Blk at h2 h4; rw [h2] at h4; injection h4 with h4; injection h4 with _ h4 _; exact absurd h4 (by decide)
  have a3 : rowOf (some (⟨gS, 0, none⟩ : Addr)) ≠ some G := own_ne_ty h3 h1 (by decide)
  have a4 : rowOf (some (⟨gS, 0, none⟩ : Addr)) ≠ some V := own_ne_ty h3 h2 (by decide)
  have a3' : G ≠ gS := fun e => a3 (by rw [e]; rfl)
  have a4' : V ≠ gS := fun e => a4 (by rw [e]; rfl)
  refine ⟨(h1.far a1 _).far a3' _, ?_, (h3.setCell _ _ (fun e => h5 (by injection e))).set_bool true hk, ((h4.set_ 0 _).far (Ne.symm h5) _), h5, h6, h7⟩
  rw [List.length_set]
  exact (h2.far a2 _).far a4' _

theorem SeeSt.ne_ {w : World} {base G V M gS c : Nat} {hv rv : Value} {s : List Bool} {m : Bool} (h : SeeSt w base G V M gS c hv rv s m) : G ≠ M := by
  obtain ⟨h1, h2, h3, h4, h5, h6, h7⟩ := h
  exact fun e => by subst e; unfold Blk at h1 h4; rw [h1] at h4; injection h4 with h4; injection h4 with _ h4 _; exact absurd h4 (by decide)

theorem see_any (base G V M gS c k : Nat) (hv rv : Value) (s : List Bool) (m : Bool) (w : World) (h : SeeSt w base G V M gS c hv rv s m) (hk : k < s.length) :
    Calls Try.prog 108 #[.int .i64 k, .pointer (some ⟨M, 0, none⟩), .pointer (some ⟨V, 0, none⟩)] w fun e w' => e = .returned (.tuple #[]) ∧ SeeSt w' base G V M gS c hv rv (s.set k true) (m || !(s.getD k false)) ∧ Below base w w' ∧ w'.heap.size = w.heap.size := by
  obtain ⟨b, hb⟩ : ∃ b, s[k]? = some b := ⟨_, List.getElem?_eq_getElem hk⟩
  have hgd : s.getD k false = b := by rw [List.getD_eq_getElem?_getD, hb]; rfl
  rw [hgd]
  have c0 := h.2.2.2.1.cell 0 (v := .bool m) rfl
  have z0 := h.2.2.2.1.frozen 0
  have c1 := h.2.1.cell 0 (v := .slice (some ⟨gS, 0, none⟩) s.length c) rfl
  have c2 := h.2.2.1.cell_bool hb
  have z2 := h.2.2.1.frozen (g := gS) rfl k
  have hne := h.2.2.2.2.1
  have hVM : V ≠ M := fun e => by
    have h2 := h.2.1; have h4 := h.2.2.2.1; subst e; unfold Blk at h2 h4; rw [h2] at h4; injection h4 with h4; injection h4 with _ h4 _; exact absurd h4 (by decide)
  have k0 : (0 : Int) ≤ (k : Int) := by omega
  have k1 : (k : Int) < (s.length : Int) := by omega
  have HS := Lib.hid (fun m' => h.seen (m' := m') hk)
  have hb1 := h.2.2.2.2.2.1
  have hb2 := h.2.2.2.2.2.2
  clear hb hgd h
  cases m with
  | true =>
    go_enter Try.func108, Try.ntmps108
    go_wp2
    go_end0
    exact ⟨rfl, HS.out true, ((Below.refl _ _).setCell hb1 _).setCell hb2 _, by simp [World.setCell]⟩
  | false =>
    cases b with
    | true =>
      go_enter Try.func108, Try.ntmps108
      go_wp2
      go_end0
      exact ⟨rfl, HS.out false, ((Below.refl _ _).setCell hb1 _).setCell hb2 _, by simp [World.setCell]⟩
    | false =>
      go_enter Try.func108, Try.ntmps108
      go_wp2
      go_end0
      exact ⟨rfl, HS.out true, ((Below.refl _ _).setCell hb1 _).setCell hb2 _, by simp [World.setCell]⟩

theorem SeeSt.setm {w : World} {base G V M gS c : Nat} {hv rv : Value} {s : List Bool} {m : Bool} (h : SeeSt w base G V M gS c hv rv s m) (m' : Bool) : SeeSt (w.setCell ⟨M, 0, none⟩ (.bool m')) base G V M gS c hv rv s m' := by
  obtain ⟨h1, h2, h3, h4, h5, h6, h7⟩ := h
  have a1 : G ≠ M := fun e => by subst e; unfold Blk at h1 h4; rw [h1] at h4; injection h4 with h4; injection h4 with _ h4 _; exact absurd h4 (by decide)
  have a2 : V ≠ M := fun e => by subst e; unfold Blk at h2 h4; rw [h2] at h4; injection h4 with h4; injection h4 with _ h4 _; exact absurd h4 (by decide)
  exact ⟨h1.far a1 _, h2.far a2 _, h3.setCell _ _ (fun e => h5 (by injection e)), h4.set_ 0 _, h5, h6, h7⟩
theorem SeeSt.newm {w : World} {base G V M gS c : Nat} {hv rv : Value} {s : List Bool} {m : Bool} (h : SeeSt w base G V M gS c hv rv s m) (m' : Bool) : SeeSt (w.alloc (.cells #[.bool m'] 4)) base G V w.heap.size gS c hv rv s m' := by
  obtain ⟨h1, h2, h3, h4, h5, h6, h7⟩ := h
  have := (h3.lt gS rfl).2
  exact ⟨h1.alloc _, h2.alloc _, h3.alloc _, Blk.new _ _ _, by omega, by omega, h7⟩

set_option maxHeartbeats 3200000 in
set_option maxRecDepth 100000 in
theorem rfrom_any (B hc rc lc pc rn : Nat) (HA RA LA PA : Option Addr) (has : List (List Int)) (l : List Int) (pairs : List (Int × Int)) (w : World) (hh : At w B HA has) (hl : At w B LA l) (hp : At w B PA pairs) (hB : B ≤ w.heap.size)
    (hright : Right has) (hsrc : RightL has.length l) (hpr : RightP has.length pairs) (hlen : has.length ≤ 100) (hll : l.length ≤ 1000) (hpl : pairs.length ≤ 1000) (hhl : ∀ l ∈ has, l.length ≤ 10) :
    Calls Try.prog 33 #[.agg #[.slice HA has.length hc, .slice RA rn rc], .slice LA l.length lc, .slice PA pairs.length pc] w fun e w' => ∃ S c, e = .returned (.slice S has.length c) ∧ Own w' w.heap.size 4 S c (fromL has l pairs) ∧ Below w.heap.size w w' := by
  have hmk := Go.run_make_row' (P := Try.prog) 60 4 (.bool false) 1 Try.underlying60 infoBool rfl .i64 .i64 has.length (by omega) (by omega)
  have HH := Lib.hid (And.intro hh (And.intro hl (And.intro hp (And.intro hright (And.intro hsrc (And.intro hpr hhl)))))); clear hh hl hp hright hsrc hpr hhl
  go_enter Try.func33, Try.ntmps33
  go_wp2_with fail
  refine wp_world (fun W => Blk W w.heap.size 49 #[.slice HA has.length hc, .slice RA rn rc] ∧ Blk W (w.heap.size + 1 + 1) 60 #[.slice (some ⟨w.heap.size + 1, 0, none⟩) has.length has.length] ∧ Own W w.heap.size 4 (some ⟨w.heap.size + 1, 0, none⟩) has.length (List.replicate has.length false) ∧ Below w.heap.size w W ∧ w.heap.size + 3 ≤ W.heap.size) ⟨?_, ?_, ?_, ?_, ?_⟩ ?_
  · exact ((Blk.new _ _ _).alloc _).alloc _
  · exact Blk.at_ ((w.alloc _).alloc _) _ _ (by simp)
  · have := own_made (w.alloc (.cells #[.slice HA has.length hc, .slice RA rn rc] 49)) w.heap.size 4 has.length (by simp) (by simp only [maxLen]; omega)
    simp only [World.size_alloc] at this
    exact this.alloc _
  · exact (((Below.refl _ _).alloc (Nat.le_refl _) _).alloc (by simp) _).alloc (by simp; omega) _
  · simp
  rintro W ⟨hG, hV, hS, hb0, hs0⟩
  clear hmk
  go_loopg [24] (l.length) (fun gk iv wr => ∃ (k : Nat) (s : List Bool), k ≤ l.length ∧ gk = l.length - k ∧ iv = .int .i64 k ∧ s.length = has.length ∧ Hid ((∀ n : Nat, s[n]? = some true → (n : Int) ∈ l) ∧ (∀ n : Nat, (n : Int) ∈ l.take k → s[n]? = some true) ∧ Blk wr w.heap.size 49 #[.slice HA has.length hc, .slice RA rn rc] ∧ Blk wr (w.heap.size + 1 + 1) 60 #[.slice (some ⟨w.heap.size + 1, 0, none⟩) has.length has.length] ∧ Own wr w.heap.size 4 (some ⟨w.heap.size + 1, 0, none⟩) has.length s) ∧ Below w.heap.size w wr ∧ w.heap.size + 3 ≤ wr.heap.size)
  case atStart => exact ⟨0, List.replicate has.length false, Nat.zero_le _, rfl, rfl, by simp, ⟨fun n hn => by rw [List.getElem?_replicate] at hn; split at hn <;> simp at hn, fun n hn => by simp at hn, hG, hV, hS⟩, hb0, hs0⟩
  case round =>
    obtain ⟨k, s, hk, rfl, rfl, hsl, hkeep, hbl, hsz⟩ := hrel
    clear hG hV hS hb0 hs0
    obtain ⟨k1, k2, k3, k4, k5⟩ := hkeep.out
    by_cases hlt : k < l.length
    · obtain ⟨b, o, x, rfl, hb, hx, hok, h0⟩ := (HH.out.2.1.below (hbl.mono hB)).int_ hlt
      obtain ⟨n, rfl, hn⟩ := HH.out.2.2.2.2.1 x (List.mem_of_getElem? hx)
      obtain ⟨u, hu⟩ : ∃ v, s[n]? = some v := ⟨_, List.getElem?_eq_getElem (by omega)⟩
      have c0 := k4.cell 0 (v := .slice (some ⟨w.heap.size + 1, 0, none⟩) has.length has.length) rfl
      have c1 := k5.cell_bool hu
      have z1 := k5.frozen (g := w.heap.size + 1) rfl n
      have n0 : (0 : Int) ≤ (n : Int) := by omega
      have n1 : (n : Int) < (has.length : Int) := by omega
      have hns : n < s.length := by omega
      have HX := Lib.hid (And.intro hx (And.intro (k3.far (p := ⟨w.heap.size + 1, n, none⟩) (by simp) (.bool true)) (And.intro (k4.far (p := ⟨w.heap.size + 1, n, none⟩) (by simp) (.bool true)) (And.intro (k5.set_bool true hns) (And.intro k1 k2)))))
      clear hx hu hkeep k1 k2 k3 k4 k5
      go_wp2_with fail
      go_roundg (l.length - (k + 1))
      case measure => omega
      case rel =>
        obtain ⟨f1, f2, f3, f4, f5, f6⟩ := HX.out
        refine ⟨k + 1, s.set n true, by omega, rfl, by go_num, by simp [hsl], ⟨fun j hj => ?_, fun j hj => ?_, f2, f3, f4⟩, hbl.setCell (by simp) _, by simp [World.setCell]; omega⟩
        · rcases (set_true_get hns).1 hj with rfl | hj
          · exact List.mem_of_getElem? f1
          · exact f5 j hj
        · rw [List.take_add_one, f1] at hj
          rcases List.mem_append.1 hj with hj | hj
          · exact (set_true_get hns).2 (.inr (f6 j hj))
          · simp at hj
            exact (set_true_get hns).2 (.inl (by omega))
    · rw [List.take_of_length_le (by omega)] at k2
      have hge := (k5.lt (w.heap.size + 1) rfl).2
      have HS0 := Lib.hid (And.intro k1 (And.intro k2 (And.intro k3 (And.intro k4 k5)))); clear k1 k2 k3 k4 k5 hkeep
      go_wp2_with fail
      go_loopg [10] (unseen s + 1) (fun gk mv wr => ∃ (M : Nat) (s : List Bool) (m : Bool), mv = .pointer (some ⟨M, 0, none⟩) ∧ gk = (if m = true then unseen s + 1 else 0) ∧ s.length = has.length ∧ Hid (SeeSt wr w.heap.size w.heap.size (w.heap.size + 1 + 1) M (w.heap.size + 1) has.length (.slice HA has.length hc) (.slice RA rn rc) s m ∧ (∀ n, s[n]? = some true → RT has l pairs n) ∧ (∀ n : Nat, (n : Int) ∈ l → s[n]? = some true) ∧ (m = false → EClosed has s s has.length 0 ∧ PClosed pairs s s pairs.length)) ∧ Below w.heap.size w wr)
      case atStart =>
        obtain ⟨f1, f2, f3, f4, f5⟩ := HS0.out
        exact ⟨_, s, true, rfl, by simp, hsl, ⟨⟨f3.alloc _, by rw [hsl]; exact f4.alloc _, f5.alloc _, Blk.new _ _ _, by omega, by omega, by omega⟩, fun n hn => .root (f1 n hn), f2, fun h => by cases h⟩, hbl.alloc (by omega) _⟩
      case round =>
        obtain ⟨M, s, m, rfl, rfl, hsl, hkeep, hbl⟩ := hrel
        have hsz := hbl.size
        have m0 := hkeep.out.1.2.2.2.1.cell 0 (v := .bool m) rfl
        have mz := hkeep.out.1.2.2.2.1.frozen 0
        have hM := hkeep.out.1.2.2.2.2.2.1
        cases m with
        | false =>
          have hfin := RInv.fin hsl hkeep.out.2.1 hkeep.out.2.2.1 (hkeep.out.2.2.2 rfl).1 (hkeep.out.2.2.2 rfl).2
          have v0 := hkeep.out.1.2.1.cell 0 (v := .slice (some ⟨w.heap.size + 1, 0, none⟩) s.length has.length) rfl
          have HF := Lib.hid (And.intro hfin hkeep.out.1.2.2.1); clear hfin hkeep
          go_wp2_with fail
          go_ret
          exact ⟨some ⟨w.heap.size + 1, 0, none⟩, has.length, rfl, by rw [← HF.out.1]; exact HF.out.2, hbl⟩
        | true =>
          have hst := hkeep.out.1.setm false
          have g0 := hst.1.cell 0 (v := .slice HA has.length hc) rfl
          have HK := Lib.hid (And.intro hst hkeep.out.2); clear hst hkeep
          have hblm := hbl.setCell (p := ⟨M, 0, none⟩) hM (.bool false)
          have HS1 := Lib.hid HK.out.1.1; 
          have hGM := HK.out.1.ne_
          go_wp2_with fail
          clear g0 m0 mz
          go_loopg [37] (has.length) (fun gi iv wi => ∃ (i : Nat) (s' : List Bool) (m' : Bool), i ≤ has.length ∧ gi = has.length - i ∧ iv = .int .i64 i ∧ Hid (SeeSt wi w.heap.size w.heap.size (w.heap.size + 1 + 1) M (w.heap.size + 1) has.length (.slice HA has.length hc) (.slice RA rn rc) s' m' ∧ RInv has l pairs s s' m' ∧ EClosed has s s' i 0) ∧ Below w.heap.size w wi)
          case atStart => exact ⟨0, s, false, Nat.zero_le _, rfl, rfl, ⟨HK.out.1, ⟨hsl, hsl, HK.out.2.1, Grows.refl _, fun _ => rfl, by simp⟩, EClosed.zero _ _ _⟩, hblm⟩
          case round =>
            obtain ⟨i, s1, m1, hi, rfl, rfl, hkeep, hbl3⟩ := hrel
            have hsz3 := hbl3.size
            have hs1l := hkeep.out.2.1.len
            by_cases hlt3 : i < has.length
            · obtain ⟨b, o, li, A', c', rfl, hb, hli, hcell, hat', hlc, hmx⟩ := (HH.out.1.below (hbl3.mono hB)).slice_ hlt3
              have hll10 := HH.out.2.2.2.2.2.2 li (List.mem_of_getElem? hli)
              have HLI := Lib.hid (And.intro hli hat'); clear hli hat'
              obtain ⟨wo, rfl⟩ : ∃ wo : World, wo = wr := ⟨_, rfl⟩
              go_wp2_with fail
              go_loopg [44] (li.length) (fun gj jv wj => ∃ (j : Nat) (s' : List Bool) (m' : Bool), j ≤ li.length ∧ gj = li.length - j ∧ jv = .int .i64 j ∧ Hid (SeeSt wj w.heap.size w.heap.size (w.heap.size + 1 + 1) M (w.heap.size + 1) has.length (.slice (some ⟨b, o, none⟩) has.length hc) (.slice RA rn rc) s' m' ∧ RInv has l pairs s s' m' ∧ EClosed has s s' i j) ∧ Below w.heap.size w wj ∧ Below w.heap.size wo wj)
              case atStart => exact ⟨0, s1, m1, Nat.zero_le _, rfl, rfl, hkeep.out, hbl3, Below.refl _ _⟩
              case round =>
                obtain ⟨j, s2, m2, hj, rfl, rfl, hkeep, hbl4, hblo⟩ := hrel
                have hs2l := hkeep.out.2.1.len
                by_cases hlt4 : j < li.length
                · obtain ⟨b', o', x, rfl, hb', hx, hok, h0⟩ := (HLI.out.2.below (hblo.mono hB)).int_ hlt4
                  obtain ⟨n, rfl, hn⟩ := HH.out.2.2.2.1 li (List.mem_of_getElem? HLI.out.1) x (List.mem_of_getElem? hx)
                  obtain ⟨u, hu⟩ : ∃ v, s2[i]? = some v := ⟨_, List.getElem?_eq_getElem (by omega)⟩
                  have v0 := hkeep.out.1.2.1.cell 0 (v := .slice (some ⟨w.heap.size + 1, 0, none⟩) s2.length has.length) rfl
                  have v1 := hkeep.out.1.2.2.1.cell_bool hu
                  have i0 : (0 : Int) ≤ (i : Int) := by omega
                  have i1 : (i : Int) < (s2.length : Int) := by omega
                  cases u with
                  | false =>
                    have hec := hkeep.out.2.2.next HLI.out.1 hx (fun h => by have := hkeep.out.2.1.grows i h; rw [hu] at this; cases this)
                    have HE := Lib.hid (And.intro hkeep.out.1 (And.intro hkeep.out.2.1 hec)); clear hkeep hu hx hok hec
                    go_wp2_with fail
                    go_roundg (li.length - (j + 1))
                    case measure => omega
                    case rel => exact ⟨j + 1, s2, m2, by omega, rfl, by go_num, HE.out, hbl4, hblo⟩
                  | true =>
                    have hri := hkeep.out.2.1.see hn (.edge (hkeep.out.2.1.sound i hu) HLI.out.1 (List.mem_of_getElem? hx))
                    have hns : n < s2.length := by omega
                    have hec := (hkeep.out.2.2.grow (see_grows hns)).next HLI.out.1 hx (fun _ => see_get hns)
                    have hsee := see_any w.heap.size w.heap.size (w.heap.size + 1 + 1) M (w.heap.size + 1) has.length n _ _ s2 m2 wr hkeep.out.1 hns
                    have HSEE := Lib.hid (And.intro hsee (And.intro hri hec)); clear hkeep hu hx hok hec hri hsee
                    go_wp2_with fail
                    refine HSEE.out.1.mono ?_
                    rintro e w9 ⟨rfl, hse, hb9, hs9⟩
                    go_wp2_with fail
                    go_roundg (li.length - (j + 1))
                    case measure => omega
                    case rel => exact ⟨j + 1, _, _, by omega, rfl, by go_num, ⟨hse, HSEE.out.2⟩, hbl4.trans hb9, hblo.trans hb9⟩
                · have hec := hkeep.out.2.2.done HLI.out.1 (by omega)
                  have HE := Lib.hid (And.intro hkeep.out.1 (And.intro hkeep.out.2.1 hec)); clear hkeep hec
                  go_wp2_with fail
                  go_roundg (has.length - (i + 1))
                  case measure => omega
                  case rel => exact ⟨i + 1, s2, m2, by omega, rfl, by go_num, HE.out, hbl4⟩
            · obtain rfl : i = has.length := by omega
              go_wp2_with fail
              obtain ⟨wo, rfl⟩ : ∃ wo : World, wo = wr := ⟨_, rfl⟩
              go_loopg [59] (pairs.length) (fun gj jv wj => ∃ (j : Nat) (s' : List Bool) (m' : Bool), j ≤ pairs.length ∧ gj = pairs.length - j ∧ jv = .int .i64 j ∧ Hid (SeeSt wj w.heap.size w.heap.size (w.heap.size + 1 + 1) M (w.heap.size + 1) has.length (.slice HA has.length hc) (.slice RA rn rc) s' m' ∧ RInv has l pairs s s' m' ∧ EClosed has s s' has.length 0 ∧ PClosed pairs s s' j) ∧ Below w.heap.size w wj)
              case atStart => exact ⟨0, s1, m1, Nat.zero_le _, rfl, rfl, ⟨hkeep.out.1, hkeep.out.2.1, hkeep.out.2.2, PClosed.zero _ _ _⟩, hbl3⟩
              case round =>
                obtain ⟨j, s2, m2, hj, rfl, rfl, hkeep, hbl4⟩ := hrel
                have hs2l := hkeep.out.2.1.len
                have hsz4 := hbl4.size
                by_cases hlt4 : j < pairs.length
                · obtain ⟨b', o', x, y, rfl, hb', hx, -, -, g0, g1⟩ := (HH.out.2.2.1.below (hbl4.mono hB)).pair hlt4
                  obtain ⟨p, q, hpq, hp, hq⟩ := HH.out.2.2.2.2.2.1 _ (List.mem_of_getElem? hx)
                  injection hpq with e1 e2; subst e1 e2
                  obtain ⟨u, hu⟩ : ∃ v, s2[p]? = some v := ⟨_, List.getElem?_eq_getElem (by omega)⟩
                  have ltV := hkeep.out.1.2.1.lt
                  have ltS := (hkeep.out.1.2.2.1.lt (w.heap.size + 1) rfl).2
                  have v0 := hkeep.out.1.2.1.cell 0 (v := .slice (some ⟨w.heap.size + 1, 0, none⟩) s2.length has.length) rfl
                  have v1 := hkeep.out.1.2.2.1.cell_bool hu
                  have i0 : (0 : Int) ≤ (p : Int) := by omega
                  have i1 : (p : Int) < (s2.length : Int) := by omega
                  have hal := hkeep.out.1.alloc (.cells #[.int .i64 p, .int .i64 q] 63)
                  cases u with
                  | false =>
                    have hec := hkeep.out.2.2.2.next hx (fun h => by have := hkeep.out.2.1.grows p h; rw [hu] at this; cases this)
                    have HE := Lib.hid (And.intro hal (And.intro hkeep.out.2.1 (And.intro hkeep.out.2.2.1 hec))); clear hkeep hu hx hec hal
                    go_wp2_with fail
                    go_roundg (pairs.length - (j + 1))
                    case measure => omega
                    case rel => exact ⟨j + 1, s2, m2, by omega, rfl, by go_num, HE.out, hbl4.alloc (by omega) _⟩
                  | true =>
                    have hri := hkeep.out.2.1.see hq (.pair (hkeep.out.2.1.sound p hu) (List.mem_of_getElem? hx))
                    have hns : q < s2.length := by omega
                    have hec := (hkeep.out.2.2.2.grow (see_grows hns)).next hx (fun _ => see_get hns)
                    have hec2 := hkeep.out.2.2.1.grow (see_grows hns)
                    have hsee := see_any w.heap.size w.heap.size (w.heap.size + 1 + 1) M (w.heap.size + 1) has.length q _ _ s2 m2 _ hal hns
                    have HSEE := Lib.hid (And.intro hsee (And.intro hri (And.intro hec2 hec))); clear hkeep hu hx hec hec2 hri hsee hal
                    go_wp2_with fail
                    refine HSEE.out.1.mono ?_
                    rintro e w9 ⟨rfl, hse, hb9, hs9⟩
                    go_wp2_with fail
                    go_roundg (pairs.length - (j + 1))
                    case measure => omega
                    case rel => exact ⟨j + 1, _, _, by omega, rfl, by go_num, ⟨hse, HSEE.out.2⟩, (hbl4.alloc (by omega) _).trans hb9⟩
                · obtain rfl : j = pairs.length := by omega
                  have mm := hkeep.out.1.2.2.2.1.cell 0 (v := .bool m2) rfl
                  have hls := hkeep.out.2.1.less
                  have HE := Lib.hid hkeep.out; clear hkeep
                  go_wp2_with fail
                  go_roundg (if m2 = true then unseen s2 + 1 else 0)
                  case measure => cases m2 <;> simp at hls ⊢ <;> omega
                  case rel => exact ⟨_, s2, m2, rfl, rfl, hs2l, ⟨HE.out.1.newm m2, HE.out.2.1.sound, fun n hn => HE.out.2.1.grows n (HK.out.2.2.1 n hn), fun h => by
                    have e := HE.out.2.1.same h
                    obtain ⟨-, -, h3, h4⟩ := HE.out
                    rw [← e] at h3 h4
                    exact ⟨h3, h4⟩⟩, hbl4.alloc (by omega) _⟩

end Go.Proofs.Ytpkccpegdpodoaa

/- May things be named? A marker's and a model's. -/
namespace Go.Proofs.Ytpkccpegdpodoaa
open Go.RowKit

attribute [local go_sem ↓] Go.wp_at_zero Go.wp_at_succ

theorem fromW_any (hc rc n m : Nat) (HA RA : Option Addr) (has : List (List Int)) (roots : List Int) (w : World) (hn : has.length = n) (hm : roots.length = m) (hh : At w w.heap.size HA has) (hr : At w w.heap.size RA roots)
    (hright : Right has) (hsrc : RightL has.length roots) (hlen : n ≤ 100) (hml : m ≤ 1000) (hhl : ∀ l ∈ has, l.length ≤ 10) :
    Calls Try.prog 105 #[.agg #[.slice HA n hc, .slice RA m rc], .slice RA m rc] w fun e w' => ∃ S c, e = .returned (.slice S n c) ∧ Own w' w.heap.size 4 S c (fromL has roots []) ∧ Below w.heap.size w w' := by
  subst hn hm
  exact wfrom_any w.heap.size hc rc rc roots.length HA RA RA has roots w hh hr (Nat.le_refl _) hright hsrc hlen hml hhl
theorem fromR_any (hc rc n m : Nat) (HA RA : Option Addr) (has : List (List Int)) (roots : List Int) (w : World) (hn : has.length = n) (hm : roots.length = m) (hh : At w w.heap.size HA has) (hr : At w w.heap.size RA roots)
    (hright : Right has) (hsrc : RightL has.length roots) (hlen : n ≤ 100) (hml : m ≤ 1000) (hhl : ∀ l ∈ has, l.length ≤ 10) :
    Calls Try.prog 33 #[.agg #[.slice HA n hc, .slice RA m rc], .slice RA m rc, .slice none 0 0] w fun e w' => ∃ S c, e = .returned (.slice S n c) ∧ Own w' w.heap.size 4 S c (fromL has roots []) ∧ Below w.heap.size w w' := by
  subst hn hm
  exact rfrom_any w.heap.size hc rc rc 0 roots.length HA RA RA none has roots [] w hh hr At.nil_ (Nat.le_refl _) hright hsrc (fun p hp => by simp at hp) hlen hml (by simp) hhl

theorem all_snocM {α : Type} (p : α → Bool) (l : List α) (k : Nat) (x : α) (h : l[k]? = some x) : (l.take (k + 1)).all p = ((l.take k).all p && p x) := by
  rw [List.take_add_one, h]; simp [List.all_append]
theorem all_stopM {α : Type} (p : α → Bool) (l : List α) (k : Nat) (x : α) (h : l[k]? = some x) (hp : p x = false) : l.all p = false := by
  rw [List.all_eq_false]; exact ⟨x, List.mem_of_getElem? h, by simp [hp]⟩
theorem namedE_none {s : List It} {l : List Int} {k : Nat} {x : Int} (h : l[k]? = some x) (hx : inN s.length x = false) : namedE s l = 5 := by
  unfold namedE; rw [all_stopM _ l k x h hx]; rfl
theorem namedE_state {s : List It} {l : List Int} {k : Nat} {x : Int} (h1 : l.all (inN s.length) = true) (h : l[k]? = some x) (hx : (needed s).getD x.toNat false = false) : namedE s l = 8 := by
  unfold namedE; rw [if_pos h1, all_stopM _ l k x h hx]; rfl
theorem namedE_ok {s : List It} {l : List Int} (h1 : l.all (inN s.length) = true) (h2 : l.all (fun n => (needed s).getD n.toNat false) = true) : namedE s l = 0 := by
  unfold namedE; rw [if_pos h1, if_pos h2]

/-- things whose graph is right -/
structure Fine (s : List It) : Prop where
  small : s.length ≤ 100
  long : ∀ x ∈ s, x.has.length ≤ 10
  neg : ∀ x ∈ s, ∀ k ∈ x.has, k = -1 ∨ 0 ≤ k
  right : Right (gHas s)
  rightL : RightL (gHas s).length (gRoots s)
theorem MInv.fine {kind : Int} {mk : Bool} {s : List It} (h : MInv kind mk s) : Fine s := ⟨h.small, h.long, fun x hx k hk => (h.refs x hx k hk).imp id (fun ⟨n, e, _⟩ => by omega), h.right, h.rightL⟩
theorem Fine.glen {s : List It} (h : Fine s) : ∀ l ∈ gHas s, l.length ≤ 10 := by
  intro l hl
  unfold gHas at hl
  obtain ⟨x, hx, rfl⟩ := List.mem_map.1 hl
  exact Nat.le_trans (List.length_filter_le _ _) (h.long x hx)
theorem rising_I64 (l : List Bool) (h : l.length ≤ 1000000) : ∀ x ∈ rising l, I64 x := by
  intro x hx
  obtain ⟨n, rfl, hn⟩ := (mem_rising l x).1 hx
  have := (List.getElem?_eq_some_iff.1 hn).1
  unfold I64; omega


end Go.Proofs.Ytpkccpegdpodoaa

/- The graph of a model's things. -/
namespace Go.Proofs.Ytpkccpegdpodoaa
open Go.RowKit

attribute [local go_sem ↓] Go.wp_at_zero Go.wp_at_succ

theorem filter_snocM (l : List Int) (p : Int → Bool) (k : Nat) (x : Int) (h : l[k]? = some x) : (l.take (k + 1)).filter p = (l.take k).filter p ++ if p x = true then [x] else [] := by
  rw [List.take_add_one, h]
  simp only [Option.toList_some, List.filter_append]
  by_cases hp : p x = true <;> simp [hp]

set_option maxHeartbeats 1600000 in
set_option maxRecDepth 100000 in
theorem rgraph_any (w : World) (base p : Nat) (F : Nat → Prop) (nu kind : Int) (mk : Bool) (s : List It) (h : Mdl w base F p nu kind mk s) (hs : s.length ≤ 100) (hx : ∀ x ∈ s, x.has.length ≤ 10) (hneg : ∀ x ∈ s, ∀ k ∈ x.has, k = -1 ∨ 0 ≤ k) :
    Calls Try.prog 58 #[.pointer (some ⟨p, 0, none⟩)] w (GrPost s w) := by
  obtain ⟨i0, hi, hz0, hz1, hz2⟩ := info_parts infoInt
  obtain ⟨j0, hj, hy0, hy1, hy2⟩ := info_parts infoIntsG
  obtain ⟨A, c, l, h1, h2, h3, h4, h5⟩ := h
  have hl : s.length = l.length := by rw [← h5, its_length]
  obtain ⟨N, hN⟩ : ∃ N, l.length = N := ⟨_, rfl⟩
  rw [hN] at h1 hl
  rw [hl] at hs
  have c2 := h1.cell 0 (v := .slice A N c) rfl
  have hplt := h1.lt
  have H := Lib.hid (And.intro h1 (And.intro h2 (And.intro h5 (And.intro hx (And.intro hl (And.intro hN hneg)))))); clear h1 h2 h5 hl hx hN hneg
  go_enter Try.func58, Try.ntmps58
  go_wp2_with fail
  clear c2
  go_loopg [14] N (fun gk iv wr => ∃ (k m : Nat), k ≤ N ∧ gk = N - k ∧ iv = .int .i64 k ∧ m ≤ k ∧ Hid (GrB wr w.heap.size (w.heap.size + 1) k m s ∧ Blk wr w.heap.size 49 #[.slice none 0 0, .slice none 0 0]) ∧ Below w.heap.size w wr)
  case atStart =>
    refine ⟨0, 0, Nat.zero_le _, rfl, rfl, Nat.le_refl _, ⟨⟨none, none, 0, 0, [], Blk.at_ _ _ _ (by simp), GrS.start _ _, by simp [gHas], rfl, by simp [gRoots, rising, risingFrom]⟩, (Blk.new w _ _).alloc _⟩, ((Below.refl _ _).alloc (Nat.le_refl _) _).alloc (by simp) _⟩
  case round =>
    obtain ⟨k, m, hk, rfl, rfl, hm, hkeep, hbl⟩ := hrel
    obtain ⟨wo, rfl⟩ : ∃ wo : World, wo = wr := ⟨_, rfl⟩
    have hsz := hbl.size
    by_cases hlt : k < N
    · obtain ⟨x, hx⟩ : ∃ x, l[k]? = some x := ⟨_, List.getElem?_eq_getElem (by have := H.out.2.2.2.2.2.1; omega)⟩
      have hits := H.out.2.1.fresh hbl
      obtain ⟨g, rfl, hg1, hg2, q0, q1, q2⟩ := hits.cells hx
      obtain ⟨hxo, -, hxi, hxs⟩ := hits.sub k x hx
      obtain ⟨XA, xc, xh, xs, xb⟩ := x
      simp only at q0 q1 q2 hxo hxi hxs
      have hsx : s[k]? = some ⟨xh, xs, xb⟩ := by have := its_get hx; rw [H.out.2.2.1] at this; exact this
      have hx10 : xh.length ≤ 10 := H.out.2.2.2.1 _ (List.mem_of_getElem? hsx)
      have hxn : ∀ k ∈ xh, k = -1 ∨ 0 ≤ k := H.out.2.2.2.2.2.2 _ (List.mem_of_getElem? hsx)
      have b0 : (0 : Int) ≤ (k : Int) := by omega
      have b1 : (k : Int) < (N : Int) := by omega
      have ht1 := gHas_take s k _ hsx
      have ht2 := gRoots_take s k _ hsx
      simp only at ht1 ht2
      obtain ⟨XN, hXN⟩ : ∃ n, xh.length = n := ⟨_, rfl⟩
      rw [hXN] at q0 hx10
      have HX := Lib.hid (And.intro ht1 (And.intro ht2 (And.intro hXN (And.intro hxn (And.intro hxi hkeep.out)))))
      have HO := Lib.hid hxo
      clear ht1 ht2 hxn hxi hxo hsx hx hits hkeep hXN
      go_wp2_with fail
      refine wp_world (fun W => GrB W w.heap.size (w.heap.size + 1) k m s ∧ Blk W w.heap.size 49 #[.slice none 0 0, .slice none 0 0] ∧ Blk W wo.heap.size 104 #[.slice XA XN xc, .int .i64 xs, .bool xb] ∧ Below wo.heap.size wo W ∧ wo.heap.size < W.heap.size) ⟨?_, HX.out.2.2.2.2.2.2.alloc _, Blk.new _ _ _, (Below.refl _ _).alloc (Nat.le_refl _) _, by simp⟩ ?_
      · obtain ⟨HA, RA, hc, rc, hs', d1, d2, d3⟩ := HX.out.2.2.2.2.2.1
        exact ⟨HA, RA, hc, rc, hs', d1.alloc _, d2.alloc _, d3⟩
      rintro W ⟨⟨HA, RA, hc, rc, hs', d1, d2, d3, d4, d5⟩, d6, d7, d8, d9⟩
      have hGX : w.heap.size + 1 ≠ wo.heap.size := fun e => by have := d7; rw [← e] at this; have h0 := d1; unfold Blk at this h0; rw [h0] at this; injection this with this; injection this with _ this _; exact absurd this (by decide)
      have hGW := d1.lt
      have HW := Lib.hid (And.intro d1 (And.intro d2 (And.intro d3 (And.intro d4 (And.intro d5 (And.intro d6 (And.intro d7 (And.intro d8 ((HO.out.fresh d8).at_ HX.out.2.2.2.2.1)))))))))
      clear d1 d2 d3 d4 d5 d6 d7 d8 q0 q1 q2
      go_loopg [6, 22] XN (fun gk lv jv wj => ∃ (j q : Nat) (LA : Option Addr) (lc : Nat), j ≤ XN ∧ gk = XN - j ∧ jv = .int .i64 j ∧ lv = .slice LA q lc ∧ q ≤ j ∧ Hid (Own wj W.heap.size 3 LA lc ((xh.take j).filter fun k => decide (0 ≤ k)) ∧ ((xh.take j).filter fun k => decide (0 ≤ k)).length = q) ∧ Below W.heap.size W wj)
      case atStart => exact ⟨0, 0, none, 0, Nat.zero_le _, rfl, rfl, rfl, Nat.le_refl _, ⟨Own.nil_, rfl⟩, Below.refl _ _⟩
      case round =>
        obtain ⟨j, q, LA, lc, hjl, rfl, rfl, rfl, hq, hkeep, hbj⟩ := hrel
        have hsj := hbj.size
        by_cases hltj : j < XN
        · obtain ⟨b, o, z, rfl, hbB, hz, hzi, q0⟩ := (HW.out.2.2.2.2.2.2.2.2.below hbj).int_ (k := j) (by have := HX.out.2.2.1; omega)
          have hzn := HX.out.2.2.2.1 z (List.mem_of_getElem? hz)
          have hsn := filter_snocM xh (fun k => decide (0 ≤ k)) j z hz
          have c0 : (0 : Int) ≤ (j : Int) := by omega
          have c1 : (j : Int) < (XN : Int) := by omega
          by_cases hz1 : z = -1
          · subst hz1
            rw [if_neg (by simp), List.append_nil] at hsn
            have HS := Lib.hid hsn; clear hsn hz hzn
            go_wp2_with fail
            go_roundg (XN - (j + 1))
            case measure => omega
            case rel => exact ⟨j + 1, q, LA, lc, by omega, rfl, by go_num, rfl, by omega, by unfold Hid; rw [HS.out]; exact hkeep.out, hbj⟩
          · have hz0' : 0 ≤ z := by omega
            rw [if_pos (by simpa using hz0')] at hsn
            have d0 : (z != -1) = true := by simpa using hz1
            have HS := Lib.hid (And.intro hsn hkeep.out); clear hsn hz hzn hz1 hz0' hkeep
            go_wp2_with (at_builtin; go_must (refine wpList_app (α := Int) (n := q) (m := 1) (B := wr.heap.size + 1) (r := [z]) rfl (.tmp 28) (.tmp 30) _ rfl W.heap.size 3 i0 _ 8 Try.underlying47 hi hz0 hz1 hz2 rfl (by decide) int_one (by rfl) HS.out.2.2 (HS.out.2.1.alloc _) (by rfl) (At.built wr _ _ [z] rfl (by intro u hu; simp at hu; subst hu; exact hzi)) rfl (by omega) (by simp only [maxLen]; omega) (by simp; omega) ?_); intro A2 c2 w2 hown2 hgr2 hat2; have hb2 : Below W.heap.size W w2 := (hbj.alloc hsj _).grown hgr2 (by simp; omega) (fun g hg => (HS.out.2.1.lt g hg).1); have HO2 := Lib.hid hown2; clear hown2 hgr2 hat2)
            go_roundg (XN - (j + 1))
            case measure => omega
            case rel => exact ⟨j + 1, q + 1, A2, c2, by omega, rfl, by go_num, rfl, by omega, ⟨by rw [HS.out.1]; exact HO2.out, by rw [HS.out.1, List.length_append, HS.out.2.2]; rfl⟩, hb2⟩
        · obtain rfl : j = XN := by omega
          obtain ⟨f1, f2⟩ := hkeep.out
          rw [List.take_of_length_le (by have := HX.out.2.2.1; omega)] at f1 f2
          obtain ⟨y, hy⟩ : ∃ y, (xh.filter fun k => decide (0 ≤ k)) = y := ⟨_, rfl⟩
          rw [hy] at f1 f2
          have hyi : ∀ k ∈ y, I64 k := fun k hk => by rw [← hy] at hk; exact HX.out.2.2.2.2.1 k (List.mem_filter.1 hk).1
          have hbw : Below w.heap.size w wr := hbl.trans ((HW.out.2.2.2.2.2.2.2.1.mono hsz).trans (hbj.mono (by omega)))
          have e1 := HW.out.1.fresh hbj
          have e2 := HW.out.2.1.fresh hbj
          have e6 := HW.out.2.2.2.2.2.1.fresh hbj
          have e7 := HW.out.2.2.2.2.2.2.1.fresh hbj
          have hap : ∀ g, rowOf LA = some g → rowOf RA ≠ some g := fun g hg e => by have h1 := (f1.lt g hg).1; have h2 := (HW.out.2.1.roots.lt g e).2; omega
          have hcs : (#[Value.slice LA q lc] : Array Value).toList = flat [(⟨LA, lc, y⟩ : SlR)] := by simp [flat, Flat.cells, f2]
          have g0 := e1.cell 0 (v := .slice HA k hc) rfl
          have x2 := e7.cell 2 (v := .bool xb) rfl
          have hXlt := e7.lt
          have hGlt := e1.lt
          have ht1 := HX.out.1
          have ht1' : gHas (s.take (k + 1)) = gHas (s.take k) ++ [y] := by rw [HX.out.1, hy]
          have HV := Lib.hid (And.intro e1 (And.intro e2 (And.intro e6 (And.intro e7 (And.intro (f1.base_le (by omega : w.heap.size ≤ W.heap.size)) (And.intro hyi (And.intro hap (And.intro hcs (And.intro ht1' (And.intro HX.out.2.1 (And.intro HW.out.2.2.1 (And.intro HW.out.2.2.2.1 HW.out.2.2.2.2.1))))))))))))
          clear e1 e2 e6 e7 f1 f2 hy hyi hap hcs ht1 ht1' hkeep hbj HW
          go_upto_region 13 with (at_builtin; go_must (refine wpList_app (α := SlR) (n := k) (m := 1) (B := wr.heap.size + 1) (r := [⟨LA, lc, y⟩]) rfl (.tmp 34) (.tmp 36) _ rfl w.heap.size 47 j0 _ 24 Try.underlying46 hj hy0 hy1 hy2 rfl (by decide) slr_one (by rfl) HV.out.2.2.2.2.2.2.2.2.2.2.2.1 (HV.out.2.1.row.alloc _) (by rfl) (At.built wr _ _ [(⟨LA, lc, y⟩ : SlR)] HV.out.2.2.2.2.2.2.2.1 (fun _ _ => trivial)) rfl (by omega) (by simp only [maxLen]; omega) (by simp; omega) ?_); intro A3 c3 w3 ho3 hgr3 hat3; have s3 := hgr3.size; simp only [World.size_alloc] at s3; have n1 := (HV.out.1.alloc (.cells #[.slice LA q lc] 47)).grown hgr3 (fun e => own_ne_ty (HV.out.2.1.row.alloc (.cells #[.slice LA q lc] 47)) (HV.out.1.alloc (.cells #[.slice LA q lc] 47)) (by decide) e); have n3 := (HV.out.2.2.2.1.alloc (.cells #[.slice LA q lc] 47)).grown hgr3 (fun e => own_ne_ty (HV.out.2.1.row.alloc (.cells #[.slice LA q lc] 47)) (HV.out.2.2.2.1.alloc (.cells #[.slice LA q lc] 47)) (by decide) e); have n5 := (HV.out.2.2.1.alloc (.cells #[.slice LA q lc] 47)).grown hgr3 (fun e => own_ne_ty (HV.out.2.1.row.alloc (.cells #[.slice LA q lc] 47)) (HV.out.2.2.1.alloc (.cells #[.slice LA q lc] 47)) (by decide) e); have n6 := (HV.out.2.1.alloc (.cells #[.slice LA q lc] 47)).push ho3 hgr3 (HV.out.2.2.2.2.1.alloc _) HV.out.2.2.2.2.2.1 HV.out.2.2.2.2.2.2.1; have hb3 : Below w.heap.size w w3 := (hbw.alloc (by omega) _).grown hgr3 (by simp; omega) (fun g hg => (HV.out.2.1.row.lt g hg).1); have z0 := n1.frozen 0; have g0' := n1.cell 0 (v := .slice HA k hc) rfl; have g1 := (n1.set_ 0 (.slice A3 (k + 1) c3)).cell 1 (v := .slice RA m rc) rfl; have x2' := (n3.far (p := ⟨w.heap.size + 1, 0, none⟩) (fun e => hGX e.symm) (.slice A3 (k + 1) c3)).cell 2 (v := .bool xb) rfl; have HZ := Lib.hid (And.intro n1 (And.intro n3 (And.intro n5 (And.intro n6 hb3)))); clear n1 n3 n5 n6 hb3 ho3 hgr3 hat3 g0 x2)
          refine wp_world (fun V => Hid (Blk V (w.heap.size + 1) 49 #[.slice A3 (k + 1) c3, .slice RA m rc] ∧ GrS V w.heap.size A3 c3 RA rc (hs' ++ [⟨LA, lc, y⟩]) (gRoots (s.take k)) ∧ Blk V wo.heap.size 104 #[.slice XA j xc, .int .i64 xs, .bool xb] ∧ Blk V w.heap.size 49 #[.slice none 0 0, .slice none 0 0]) ∧ Below w.heap.size w V) ⟨⟨HZ.out.1.set_ 0 _, HZ.out.2.2.2.1.blk HZ.out.1 (by decide) (by decide) _ _, HZ.out.2.1.far (fun e => hGX e.symm) _, HZ.out.2.2.1.far (by simp) _⟩, HZ.out.2.2.2.2.setCell (by simp) _⟩ ?_
          rintro V ⟨hV, hbV⟩
          clear HZ g0' g1 x2' z0
          have hsV := hbV.size
          have hVX := hV.out.2.2.1.lt
          have hVG := hV.out.1.lt
          have g1 := hV.out.1.cell 1 (v := .slice RA m rc) rfl
          have x2 := hV.out.2.2.1.cell 2 (v := .bool xb) rfl
          obtain ⟨-, -, -, -, -, -, -, -, ht1, ht2, hm1, hm2, hm3⟩ := HV.out
          have hhl : (hs' ++ [(⟨LA, lc, y⟩ : SlR)]).length = k + 1 := by rw [List.length_append, hm2]; rfl
          have hhm : (hs' ++ [(⟨LA, lc, y⟩ : SlR)]).map SlR.l = gHas (s.take (k + 1)) := by rw [List.map_append, hm1, ht1]; rfl
          have HR := Lib.hid (And.intro hm3 (And.intro hhl (And.intro hhm ht2))); clear hm1 hm2 hm3 hhl hhm ht1 ht2 HV
          cases xb with
          | false =>
            go_wp2_with fail
            go_roundg (N - (k + 1))
            case measure => omega
            case rel => exact ⟨k + 1, m, by omega, rfl, by go_num, by omega, ⟨⟨A3, RA, c3, rc, _, hV.out.1, by rw [HR.out.2.2.2]; simpa using hV.out.2.1, HR.out.2.2.1, HR.out.2.1, by rw [HR.out.2.2.2]; simpa using HR.out.1⟩, hV.out.2.2.2⟩, hbV⟩
          | true =>
            go_wp2_with (at_builtin; go_must (refine wpList_app (α := Int) (n := m) (m := 1) (B := V.heap.size + 1) (r := [(k : Int)]) rfl (.tmp 42) (.tmp 44) _ rfl w.heap.size 3 i0 _ 8 Try.underlying47 hi hz0 hz1 hz2 rfl (by decide) int_one (by rfl) HR.out.1 (hV.out.2.1.roots.alloc _) (by rfl) (At.built V _ _ [(k : Int)] rfl (by intro z hz; simp at hz; subst hz; exact (by unfold I64; omega : I64 (k : Int)))) rfl (by omega) (by simp only [maxLen]; omega) (by simp; omega) ?_); intro A5 c5 w5 ho5 hgr5 hat5; have p1 := (hV.out.1.alloc (.cells #[.int .i64 (k : Int)] 3)).grown hgr5 (fun e => own_ne_ty (hV.out.2.1.roots.alloc (.cells #[.int .i64 (k : Int)] 3)) (hV.out.1.alloc (.cells #[.int .i64 (k : Int)] 3)) (by decide) e); have p2 := (hV.out.2.2.2.alloc (.cells #[.int .i64 (k : Int)] 3)).grown hgr5 (fun e => own_ne_ty (hV.out.2.1.roots.alloc (.cells #[.int .i64 (k : Int)] 3)) (hV.out.2.2.2.alloc (.cells #[.int .i64 (k : Int)] 3)) (by decide) e); have p3 := (hV.out.2.1.alloc (.cells #[.int .i64 (k : Int)] 3)).root ho5 hgr5 hat5; have p4 : Below w.heap.size w w5 := (hbV.alloc (by omega) _).grown hgr5 (by simp; omega) (fun g hg => (hV.out.2.1.roots.lt g hg).1); have s5 := hgr5.size; have q1 := p1.cell 1 (v := .slice RA m rc) rfl; have z1 := p1.frozen 1; have HP := Lib.hid (And.intro p1 (And.intro p2 (And.intro p3 p4))); clear p1 p2 p3 p4 ho5 hgr5 hat5)
            go_roundg (N - (k + 1))
            case measure => omega
            case rel =>
              refine ⟨k + 1, m + 1, by omega, rfl, by go_num, by omega, ⟨⟨A3, A5, c3, c5, _, HP.out.1.set_ 1 _, ?_, HR.out.2.2.1, HR.out.2.1, by rw [HR.out.2.2.2]; simpa using HR.out.1⟩, HP.out.2.1.far (by simp) _⟩, HP.out.2.2.2.setCell (by simp) _⟩
              rw [HR.out.2.2.2]
              simpa using HP.out.2.2.1.blk HP.out.1 (by decide) (by decide) 1 _
    · obtain rfl : k = N := by omega
      have hkk := hkeep.out
      have HKK := Lib.hid hkk; clear hkk hkeep
      obtain ⟨⟨HA, RA, hc, rc, hs', b1, b2, b3, b4, b5⟩, b6⟩ := HKK.out
      have g0 := b1.cell 0 (v := .slice HA k hc) rfl
      have g1 := b1.cell 1 (v := .slice RA m rc) rfl
      have r0 := b6.cell 0 (v := .slice none 0 0) rfl
      have r1 := b6.cell 1 (v := .slice none 0 0) rfl
      have z0 := b6.frozen 0
      have z1 := b6.frozen 1
      have HB := Lib.hid (And.intro b2 (And.intro b3 (And.intro b4 (And.intro b5 b6)))); clear b1 b2 b3 b4 b5 b6 HKK
      go_wp2_with fail
      refine bodyPost_ret (results_cell1 rfl _ _ w.heap.size _ _ _ rfl ((HB.out.2.2.2.2.set_ 0 (.slice HA k hc)).set_ 1 (.slice RA m rc)) Try.underlying49 rfl (by kernel_rfl)) rfl ?_
      obtain ⟨e1, e2, e3, e4, e5⟩ := HB.out
      have hsl : s.take k = s := List.take_of_length_le (by have := H.out.2.2.2.2.1; omega)
      rw [hsl] at e1 e2 e4
      have e1' : GrS ((wo.setCell ⟨w.heap.size, 0, none⟩ (.slice HA k hc)).setCell ⟨w.heap.size, 1, none⟩ (.slice RA m rc)) w.heap.size HA hc RA rc hs' (gRoots s) := (e1.blk e5 (by decide) (by decide) _ _).blk (e5.set_ 0 _) (by decide) (by decide) _ _
      have e6 := e1'.at_
      rw [e2] at e6
      exact ⟨HA, RA, hc, rc, m, by rw [H.out.2.2.2.2.1]; rfl, e6, e1'.roots, e4, (hbl.setCell (Nat.le_refl _) _).setCell (Nat.le_refl _) _⟩

end Go.Proofs.Ytpkccpegdpodoaa

/- May things be named? A marker's and a model's. -/
namespace Go.Proofs.Ytpkccpegdpodoaa
open Go.RowKit

attribute [local go_sem ↓] Go.wp_at_zero Go.wp_at_succ

set_option maxHeartbeats 1600000 in
set_option maxRecDepth 100000 in
theorem mnamed_any (w : World) (base p B lc n : Nat) (F : Nat → Prop) (kind : Int) (mk : Bool) (s : List It) (LA : Option Addr) (ls : List Int) (h : Mkr w base F p kind mk s) (hf : Fine s) (hl : At w B LA ls) (hB : B ≤ w.heap.size) (hn : ls.length = n) (hn2 : n ≤ 2) :
    Calls Try.prog 177 #[.pointer (some ⟨p, 0, none⟩), .slice LA n lc] w fun e w' => e = .returned (.int .i64 (namedE s ls)) ∧ Below w.heap.size w w' := by
  have HM := Lib.hid h
  obtain ⟨A, c, l, h1, h2, h3, h4, h5⟩ := h
  have hls : s.length = l.length := by rw [← h5, its_length]
  obtain ⟨N, hN⟩ : ∃ N, l.length = N := ⟨_, rfl⟩
  rw [hN] at h1 hls
  have hN100 : N ≤ 100 := by rw [← hls]; exact hf.small
  have c2 := h1.cell 2 (v := .slice A N c) rfl
  have hplt := h1.lt
  have H := Lib.hid (And.intro hl (And.intro hn (And.intro hls hf))); clear hl hn hls hf h1 h2 h3 h5 hN
  go_enter Try.func177, Try.ntmps177
  go_wp2_with fail
  go_loopg [13] n (fun gk iv wr => ∃ (k : Nat), k ≤ n ∧ gk = n - k ∧ iv = .int .i64 k ∧ Hid ((ls.take k).all (inN s.length) = true) ∧ w = wr)
  case atStart => exact ⟨0, Nat.zero_le _, rfl, rfl, by simp [Hid], rfl⟩
  case round =>
    obtain ⟨k, hk, rfl, rfl, hkeep, rfl⟩ := hrel
    by_cases hlt : k < n
    · obtain ⟨b, o, x, rfl, hb, hx, hox, q0⟩ := H.out.1.int_ (k := k) (by have := H.out.2.1; omega)
      have b0 : (0 : Int) ≤ (k : Int) := by omega
      have b1 : (k : Int) < (n : Int) := by omega
      cases hin : inN s.length x with
      | false =>
        have HNM := Lib.hid (namedE_none hx hin)
        by_cases hneg : x < 0
        · have d1 : decide (x < 0) = true := by simpa using hneg
          clear hin hx
          go_wp2_with fail
          go_ret
          exact ⟨by rw [HNM.out]; rfl, Below.refl _ _⟩
        · have hge : (N : Int) ≤ x := by
            have := H.out.2.2.1
            unfold inN at hin
            simp only [Bool.and_eq_false_iff, decide_eq_false_iff_not] at hin
            omega
          clear hin hx
          go_wp2_with fail
          go_ret
          exact ⟨by rw [HNM.out]; rfl, Below.refl _ _⟩
      | true =>
        have hh := inN_iff.1 hin
        have hsn := all_snocM (inN s.length) ls k x hx
        rw [hkeep.out, hin] at hsn
        have hneg : ¬ x < 0 := by omega
        have hge : ¬ (N : Int) ≤ x := by have := H.out.2.2.1; omega
        have HS := Lib.hid hsn; clear hsn hin hx hh
        go_wp2_with fail
        go_roundg (n - (k + 1))
        case measure => omega
        case rel => exact ⟨k + 1, by omega, rfl, by go_num, HS.out, rfl⟩
    · obtain rfl : n = k := by omega
      have hall := hkeep.out
      rw [List.take_of_length_le (by have := H.out.2.1; omega)] at hall
      have HA := Lib.hid hall; clear hall hkeep
      go_wp2_with fail
      refine (mgraph_any w base p F kind mk s HM.out H.out.2.2.2.small H.out.2.2.2.long).mono ?_
      rintro e w1 ⟨GA, RA, gc, rc, m, rfl, g1, g2, g3, hb1⟩
      have hs1 := hb1.size
      have hsn : s.length = N := H.out.2.2.1
      rw [hsn]
      have hm100 : m ≤ 100 := by have := gRoots_len s; omega
      have HG := Lib.hid (And.intro g1 (And.intro g2 g3)); clear g1 g2 g3 hsn c2
      go_wp2_with fail
      refine calls_world (fun W => Below w1.heap.size w1 W ∧ w1.heap.size < W.heap.size) ⟨(Below.refl _ _).alloc (Nat.le_refl _) _, by simp⟩ ?_
      rintro W ⟨hW, hsW⟩
      have hgl : (gHas s).length = N := by rw [gHas_length]; exact H.out.2.2.1
      have hsl : (s.map It.held).length ≤ 1000000 := by rw [List.length_map, H.out.2.2.1]; omega
      refine (fromW_any gc rc N m GA RA (gHas s) (gRoots s) W hgl HG.out.2.2 ((HG.out.1.below hW).more (by omega)) ((HG.out.2.1.fresh hW).at_ (rising_I64 _ hsl)) H.out.2.2.2.right H.out.2.2.2.rightL hN100 (by omega) H.out.2.2.2.glen).mono ?_
      rintro e w2 ⟨S, sc, rfl, ho2, hb2⟩
      have hs2 := hb2.size
      have hb : Below w.heap.size w w2 := hb1.trans ((hW.mono hs1).trans (hb2.mono (by omega)))
      have HO := Lib.hid ho2; clear ho2 hgl hsl
      go_wp2_with fail
      go_loopg [37] n (fun gk iv wr => ∃ (k : Nat), k ≤ n ∧ gk = n - k ∧ iv = .int .i64 k ∧ Hid ((ls.take k).all (fun n => (needed s).getD n.toNat false) = true) ∧ w2 = wr)
      case atStart => exact ⟨0, Nat.zero_le _, rfl, rfl, by simp [Hid], rfl⟩
      case round =>
        obtain ⟨k, hk, rfl, rfl, hkeep, rfl⟩ := hrel
        by_cases hlt : k < n
        · obtain ⟨b, o, x, rfl, hbB, hx, hox, q0⟩ := (H.out.1.below (hb.mono hB)).int_ (k := k) (by have := H.out.2.1; omega)
          have hin := inN_iff.1 (List.all_eq_true.1 HA.out x (List.mem_of_getElem? hx))
          obtain ⟨j, rfl⟩ := Int.eq_ofNat_of_zero_le hin.1
          have hj : j < N := by have := H.out.2.2.1; omega
          obtain ⟨v, hv⟩ : ∃ v, (needed s)[j]? = some v := ⟨_, List.getElem?_eq_getElem (by unfold needed; rw [fromL_length, gHas_length]; have := H.out.2.2.1; omega)⟩
          obtain ⟨g, rfl, hgl, hgr⟩ := HO.out.some_ (by rw [fromL_length, gHas_length]; have := H.out.2.2.1; omega)
          have v0 := HO.out.cell_bool hv
          have hgd : (needed s).getD ((j : Int).toNat) false = v := by rw [Int.toNat_natCast, List.getD_eq_getElem?_getD, hv]; rfl
          have b0 : (0 : Int) ≤ (k : Int) := by omega
          have b1 : (k : Int) < (n : Int) := by omega
          have b2 : (0 : Int) ≤ (j : Int) := by omega
          have b3 : (j : Int) < (N : Int) := by omega
          cases v with
          | false =>
            have HNM := Lib.hid (namedE_state HA.out hx hgd)
            clear hin hx hv hgd
            go_wp2_with fail
            go_ret
            exact ⟨by rw [HNM.out]; rfl, hb⟩
          | true =>
            have hsn := all_snocM (fun n => (needed s).getD n.toNat false) ls k _ hx
            rw [hkeep.out, hgd] at hsn
            have HS := Lib.hid hsn; clear hsn hin hx hv hgd
            go_wp2_with fail
            go_roundg (n - (k + 1))
            case measure => omega
            case rel => exact ⟨k + 1, by omega, rfl, by go_num, HS.out, rfl⟩
        · obtain rfl : n = k := by omega
          have hall := hkeep.out
          rw [List.take_of_length_le (by have := H.out.2.1; omega)] at hall
          have HNM := Lib.hid (namedE_ok HA.out hall); clear hall hkeep
          go_wp2_with fail
          go_ret
          exact ⟨by rw [HNM.out]; rfl, hb⟩
set_option maxHeartbeats 1600000 in
set_option maxRecDepth 100000 in
theorem rnamed_any (w : World) (base p B lc n : Nat) (F : Nat → Prop) (nu kind : Int) (mk : Bool) (s : List It) (LA : Option Addr) (ls : List Int) (h : Mdl w base F p nu kind mk s) (hf : Fine s) (hl : At w B LA ls) (hB : B ≤ w.heap.size) (hn : ls.length = n) (hn2 : n ≤ 2) :
    Calls Try.prog 180 #[.pointer (some ⟨p, 0, none⟩), .slice LA n lc] w fun e w' => e = .returned (.int .i64 (namedE s ls)) ∧ Below w.heap.size w w' := by
  have HM := Lib.hid h
  obtain ⟨A, c, l, h1, h2, h3, h4, h5⟩ := h
  have hls : s.length = l.length := by rw [← h5, its_length]
  obtain ⟨N, hN⟩ : ∃ N, l.length = N := ⟨_, rfl⟩
  rw [hN] at h1 hls
  have hN100 : N ≤ 100 := by rw [← hls]; exact hf.small
  have c2 := h1.cell 0 (v := .slice A N c) rfl
  have hplt := h1.lt
  have H := Lib.hid (And.intro hl (And.intro hn (And.intro hls hf))); clear hl hn hls hf h1 h2 h3 h5 hN
  go_enter Try.func180, Try.ntmps180
  go_wp2_with fail
  go_loopg [13] n (fun gk iv wr => ∃ (k : Nat), k ≤ n ∧ gk = n - k ∧ iv = .int .i64 k ∧ Hid ((ls.take k).all (inN s.length) = true) ∧ w = wr)
  case atStart => exact ⟨0, Nat.zero_le _, rfl, rfl, by simp [Hid], rfl⟩
  case round =>
    obtain ⟨k, hk, rfl, rfl, hkeep, rfl⟩ := hrel
    by_cases hlt : k < n
    · obtain ⟨b, o, x, rfl, hb, hx, hox, q0⟩ := H.out.1.int_ (k := k) (by have := H.out.2.1; omega)
      have b0 : (0 : Int) ≤ (k : Int) := by omega
      have b1 : (k : Int) < (n : Int) := by omega
      cases hin : inN s.length x with
      | false =>
        have HNM := Lib.hid (namedE_none hx hin)
        by_cases hneg : x < 0
        · have d1 : decide (x < 0) = true := by simpa using hneg
          clear hin hx
          go_wp2_with fail
          go_ret
          exact ⟨by rw [HNM.out]; rfl, Below.refl _ _⟩
        · have hge : (N : Int) ≤ x := by
            have := H.out.2.2.1
            unfold inN at hin
            simp only [Bool.and_eq_false_iff, decide_eq_false_iff_not] at hin
            omega
          clear hin hx
          go_wp2_with fail
          go_ret
          exact ⟨by rw [HNM.out]; rfl, Below.refl _ _⟩
      | true =>
        have hh := inN_iff.1 hin
        have hsn := all_snocM (inN s.length) ls k x hx
        rw [hkeep.out, hin] at hsn
        have hneg : ¬ x < 0 := by omega
        have hge : ¬ (N : Int) ≤ x := by have := H.out.2.2.1; omega
        have HS := Lib.hid hsn; clear hsn hin hx hh
        go_wp2_with fail
        go_roundg (n - (k + 1))
        case measure => omega
        case rel => exact ⟨k + 1, by omega, rfl, by go_num, HS.out, rfl⟩
    · obtain rfl : n = k := by omega
      have hall := hkeep.out
      rw [List.take_of_length_le (by have := H.out.2.1; omega)] at hall
      have HA := Lib.hid hall; clear hall hkeep
      go_wp2_with fail
      refine (rgraph_any w base p F nu kind mk s HM.out H.out.2.2.2.small H.out.2.2.2.long H.out.2.2.2.neg).mono ?_
      rintro e w1 ⟨GA, RA, gc, rc, m, rfl, g1, g2, g3, hb1⟩
      have hs1 := hb1.size
      have hsn : s.length = N := H.out.2.2.1
      rw [hsn]
      have hm100 : m ≤ 100 := by have := gRoots_len s; omega
      have HG := Lib.hid (And.intro g1 (And.intro g2 g3)); clear g1 g2 g3 hsn c2
      go_wp2_with fail
      refine calls_world (fun W => Below w1.heap.size w1 W ∧ w1.heap.size < W.heap.size) ⟨(Below.refl _ _).alloc (Nat.le_refl _) _, by simp⟩ ?_
      rintro W ⟨hW, hsW⟩
      have hgl : (gHas s).length = N := by rw [gHas_length]; exact H.out.2.2.1
      have hsl : (s.map It.held).length ≤ 1000000 := by rw [List.length_map, H.out.2.2.1]; omega
      refine (fromR_any gc rc N m GA RA (gHas s) (gRoots s) W hgl HG.out.2.2 ((HG.out.1.below hW).more (by omega)) ((HG.out.2.1.fresh hW).at_ (rising_I64 _ hsl)) H.out.2.2.2.right H.out.2.2.2.rightL hN100 (by omega) H.out.2.2.2.glen).mono ?_
      rintro e w2 ⟨S, sc, rfl, ho2, hb2⟩
      have hs2 := hb2.size
      have hb : Below w.heap.size w w2 := hb1.trans ((hW.mono hs1).trans (hb2.mono (by omega)))
      have HO := Lib.hid ho2; clear ho2 hgl hsl
      go_wp2_with fail
      go_loopg [37] n (fun gk iv wr => ∃ (k : Nat), k ≤ n ∧ gk = n - k ∧ iv = .int .i64 k ∧ Hid ((ls.take k).all (fun n => (needed s).getD n.toNat false) = true) ∧ w2 = wr)
      case atStart => exact ⟨0, Nat.zero_le _, rfl, rfl, by simp [Hid], rfl⟩
      case round =>
        obtain ⟨k, hk, rfl, rfl, hkeep, rfl⟩ := hrel
        by_cases hlt : k < n
        · obtain ⟨b, o, x, rfl, hbB, hx, hox, q0⟩ := (H.out.1.below (hb.mono hB)).int_ (k := k) (by have := H.out.2.1; omega)
          have hin := inN_iff.1 (List.all_eq_true.1 HA.out x (List.mem_of_getElem? hx))
          obtain ⟨j, rfl⟩ := Int.eq_ofNat_of_zero_le hin.1
          have hj : j < N := by have := H.out.2.2.1; omega
          obtain ⟨v, hv⟩ : ∃ v, (needed s)[j]? = some v := ⟨_, List.getElem?_eq_getElem (by unfold needed; rw [fromL_length, gHas_length]; have := H.out.2.2.1; omega)⟩
          obtain ⟨g, rfl, hgl, hgr⟩ := HO.out.some_ (by rw [fromL_length, gHas_length]; have := H.out.2.2.1; omega)
          have v0 := HO.out.cell_bool hv
          have hgd : (needed s).getD ((j : Int).toNat) false = v := by rw [Int.toNat_natCast, List.getD_eq_getElem?_getD, hv]; rfl
          have b0 : (0 : Int) ≤ (k : Int) := by omega
          have b1 : (k : Int) < (n : Int) := by omega
          have b2 : (0 : Int) ≤ (j : Int) := by omega
          have b3 : (j : Int) < (N : Int) := by omega
          cases v with
          | false =>
            have HNM := Lib.hid (namedE_state HA.out hx hgd)
            clear hin hx hv hgd
            go_wp2_with fail
            go_ret
            exact ⟨by rw [HNM.out]; rfl, hb⟩
          | true =>
            have hsn := all_snocM (fun n => (needed s).getD n.toNat false) ls k _ hx
            rw [hkeep.out, hgd] at hsn
            have HS := Lib.hid hsn; clear hsn hin hx hv hgd
            go_wp2_with fail
            go_roundg (n - (k + 1))
            case measure => omega
            case rel => exact ⟨k + 1, by omega, rfl, by go_num, HS.out, rfl⟩
        · obtain rfl : n = k := by omega
          have hall := hkeep.out
          rw [List.take_of_length_le (by have := H.out.2.1; omega)] at hall
          have HNM := Lib.hid (namedE_ok HA.out hall); clear hall hkeep
          go_wp2_with fail
          go_ret
          exact ⟨by rw [HNM.out]; rfl, hb⟩

end Go.Proofs.Ytpkccpegdpodoaa

/- math/bits.Mul at one and a small number; slices.Repeat of one int. -/
namespace Go.Proofs.Ytpkccpegdpodoaa
open Go.RowKit

attribute [local go_sem ↓] Go.wp_at_zero Go.wp_at_succ

theorem mul64_small (y : Nat) (hy : y ≤ 1000) (w : World) : Calls Try.prog 215 #[.int .u64 1, .int .u64 y] w fun e w' => e = .returned (.tuple #[.int .u64 0, .int .u64 y]) ∧ w = w' := by
  have hm : bits .and .u64 (y : Int) 4294967295 = (y : Int) := by
    have h := bits_and_u64_nat y 4294967295 (by omega) (by omega)
    have e : y &&& 4294967295 = y % 4294967296 := Nat.and_two_pow_sub_one_eq_mod y 32
    rw [e, Nat.mod_eq_of_lt (by omega)] at h
    exact h
  have hm1 : bits .and .u64 1 4294967295 = 1 := by decide +kernel
  have hd : (y : Int) / 4294967296 = 0 := by omega
  have hm0 : bits .and .u64 0 4294967295 = 0 := by decide +kernel
  have hw : IntKind.u64.wrap (y : Int) = (y : Int) := by rw [IntKind.wrap_u64]; omega
  go_enter Try.func215, Try.ntmps215
  go_wp2
  go_ret2
  exact ⟨rfl, rfl⟩
theorem mul_small (y : Nat) (hy : y ≤ 1000) (w : World) : Calls Try.prog 193 #[.int .u64 1, .int .u64 y] w fun e w' => e = .returned (.tuple #[.int .u64 0, .int .u64 y]) ∧ w = w' := by
  have H := Lib.hid hy
  go_enter Try.func193, Try.ntmps193
  go_wp2_with (go_at_call 215; refine (mul64_small y H.out w).mono ?_; rintro e w' ⟨rfl, rfl⟩)
  go_ret2
  exact ⟨rfl, rfl⟩

def repC (v : Int) (n k : Nat) : List Value := List.replicate k (.int .i64 v) ++ List.replicate (n - k) (.int .i64 0)
theorem repC_length (v : Int) (n k : Nat) (h : k ≤ n) : (repC v n k).length = n := by simp [repC]; omega
theorem repC_splice (v : Int) (n k m : Nat) (h : k + m ≤ n) : splice (repC v n k) k (List.replicate m (.int .i64 v)) = repC v n (k + m) := by
  unfold splice repC
  rw [List.length_replicate, List.take_left' (by simp), List.drop_append, List.drop_of_length_le (by simp), List.length_replicate, List.drop_replicate, List.nil_append, ← List.append_assoc, List.replicate_append_replicate]
  congr 2
  omega
theorem madeInt (n : Nat) : madeCells #[.int .i64 0] n = (repC 0 n 0).toArray := by
  apply Array.toList_inj.1
  apply List.ext_getElem?
  intro i
  simp only [madeCells, repC, Array.toList_map, Array.toList_range, List.getElem?_map, List.replicate_zero, List.nil_append, Nat.sub_zero, List.getElem?_replicate]
  by_cases h : i < n
  · simp [h, Nat.mod_one]
  · simp [h]
theorem repC_get (v : Int) (n k j : Nat) (h : j < k) : (repC v n k)[j]? = some (.int .i64 v) := by
  unfold repC
  rw [List.getElem?_append_left (by simpa using h), List.getElem?_replicate, if_pos h]
theorem repC_zero (v u : Int) (n : Nat) : repC v n 0 = repC u n 0 := by simp [repC]
theorem repC_flat (v : Int) (n : Nat) : repC v n n = flat (List.replicate n v) := by
  unfold repC
  rw [Nat.sub_self, List.replicate_zero, List.append_nil]
  induction n with
  | zero => rfl
  | succ n ih => rw [List.replicate_succ, ih, List.replicate_succ, flat_cons]; rfl
theorem at_one {w : World} {B : Nat} {X : Option Addr} {v : Int} (h : At w B X [v]) : ∃ b o, X = some ⟨b, o, none⟩ ∧ b < B ∧ w.cell? ⟨b, o, none⟩ = some (.int .i64 v) ∧ I64 v := by
  obtain ⟨b, o, x, rfl, hb, hx, hok, h0⟩ := h.int_ (k := 0) (by simp)
  injection hx with hx
  subst hx
  exact ⟨b, o, rfl, hb, h0, hok⟩

set_option maxHeartbeats 1600000 in
set_option maxRecDepth 100000 in
theorem repeatInt_any (A : Option Addr) (c B n : Nat) (v : Int) (w : World) (h : At w B A [v]) (hB : B ≤ w.heap.size) (hc : 1 ≤ c) (hn : n ≤ 100) :
    Calls Try.prog 171 #[.slice A 1 c, .int .i64 n] w fun e w' => e = .returned (.slice (some ⟨w.heap.size, 0, none⟩) n n) ∧ Own w' w.heap.size 3 (some ⟨w.heap.size, 0, none⟩) n (List.replicate n v) ∧ Below w.heap.size w w' := by
  have hmk := Go.run_make_row' (P := Try.prog) 47 3 (.int .i64 0) 8 Try.underlying47 infoInt rfl .i64 .i64 n (by omega) (by omega)
  have hsz : (Try.prog.info? 3).map (·.size) = some 1 := by kernel_rfl
  obtain ⟨b, o, rfl, hb, h0, hok⟩ := at_one h
  have HSZ := Lib.hid hsz; clear hsz h
  have HV := Lib.hid hok; clear hok
  have hge : (0 : Int) ≤ (n : Int) := by omega
  have hwn : IntKind.u64.wrap (n : Int) = (n : Int) := by rw [IntKind.wrap_u64]; omega
  have hwi : IntKind.i64.wrap (n : Int) = (n : Int) := IntWalk.i64_in _ (by omega)
  go_enter Try.func171, Try.ntmps171
  obtain ⟨W, hW⟩ : ∃ W, W = w.alloc (.cells (madeCells #[.int .i64 0] n) 3) := ⟨_, rfl⟩
  have hg0 : W.heap[w.heap.size]? = some (.cells (repC v n 0).toArray 3 (0, 0)) := by
    rw [hW, madeInt, repC_zero 0 v]; exact heap_alloc_new w _
  have hb0 : Below w.heap.size w W := by rw [hW]; exact (Below.refl _ _).alloc (Nat.le_refl _) _
  have hc0 : W.cell? ⟨b, o, none⟩ = some (.int .i64 v) := by
    rw [hW, World.cell?_alloc_lt w _ _ (by simp; omega)]; exact h0
  obtain ⟨W2, hrun, hg2, hb2⟩ : ∃ W2, (Builtin.copy_ #[47, 47] 3 #[.slice (some ⟨w.heap.size, 0, none⟩) n n, .slice (some ⟨b, o, none⟩) 1 c]).run Try.prog W = .ok (.int .i64 ((min 1 n : Nat) : Int)) W2 ∧ W2.heap[w.heap.size]? = some (.cells (repC v n (min 1 n)).toArray 3 (0, 0)) ∧ Below w.heap.size w W2 := by
    have hr := run_copy_row (P := Try.prog) W 47 47 3 3 w.heap.size 0 n n ⟨b, o, none⟩ 1 c (repC v n 0).toArray 3 (List.replicate (min 1 n) (.int .i64 v)) Try.underlying47 HSZ.out hg0 (by simp [Nat.min_def]) (fun j u hj => by
      rw [List.getElem?_replicate] at hj
      split at hj
      · rename_i hlt
        obtain rfl : j = 0 := by omega
        injection hj with hj
        subst hj
        exact hc0
      · cases hj) (by simp [repC_length]; omega) (fun u hu => by rw [(List.mem_replicate.1 hu).2]; rfl)
    refine ⟨_, by rw [hr, List.length_replicate]; rfl, ?_, bel_setRow hb0 (Nat.le_refl _) _⟩
    have := repC_splice v n 0 (min 1 n) (by omega)
    unfold splice at this
    rw [setRow_heap W w.heap.size _ _ _ _ hg0]
    simp only [Nat.zero_add] at this
    rw [← this]
    simp
  rw [hW] at hrun
  have H2 := Lib.hid (And.intro hg2 hb2); clear hg2 hb2 hg0 hb0 hc0 hW
  obtain ⟨m0, hm0⟩ : ∃ m, min 1 n = m := ⟨_, rfl⟩
  rw [hm0] at hrun H2
  have hm1 : m0 ≤ n := by omega
  have hm2 : 0 < n → 1 ≤ m0 := by omega
  have HM2 := Lib.hid hm2
  clear hm0 hm2
  go_wp2_with (go_at_call 193; refine (mul_small n (by omega) w).mono ?_; rintro e w' ⟨rfl, rfl⟩)
  go_loopg [8] (n - m0) (fun gk mv wr => ∃ m : Nat, m ≤ n ∧ gk = n - m ∧ mv = .int .i64 m ∧ (0 < n → 1 ≤ m) ∧ Hid (wr.heap[w.heap.size]? = some (.cells (repC v n m).toArray 3 (0, 0))) ∧ Below w.heap.size w wr)
  case atStart => exact ⟨m0, hm1, by omega, rfl, HM2.out, H2.out.1, H2.out.2⟩
  case round =>
    obtain ⟨m, hm, rfl, rfl, hp, hrow, hbl⟩ := hrel
    by_cases hlt : m < n
    · have hm1' : 1 ≤ m := hp (by omega)
      obtain ⟨q, hq⟩ : ∃ q, Nat.min m (n - m) = q := ⟨_, rfl⟩
      have hq1 : 1 ≤ q ∧ q ≤ m ∧ m + q ≤ n := by
        subst hq
        have h1 : Nat.min m (n - m) = min m (n - m) := rfl
        rw [h1]; omega
      have hnm : ¬ n = m := by omega
      have c0 : (0 : Int) ≤ (m : Int) := by omega
      have c1 : (m : Int) ≤ (n : Int) := by omega
      have c2 : m ≤ n := by omega
      have hwr : IntKind.i64.wrap ((m : Int) + (q : Int)) = ((m + q : Nat) : Int) := by rw [IntWalk.i64_in _ (by omega)]; omega
      obtain ⟨w3, hrun, hg3, hb3⟩ : ∃ w3, (Builtin.copy_ #[47, 47] 3 #[.slice (some ⟨w.heap.size, m, none⟩) (n - m) (n - m), .slice (some ⟨w.heap.size, 0, none⟩) m n]).run Try.prog wr.drew = .ok (.int .i64 (q : Int)) w3 ∧ w3.heap[w.heap.size]? = some (.cells (repC v n (m + q)).toArray 3 (0, 0)) ∧ Below w.heap.size w w3 := by
        have hr := run_copy_row (P := Try.prog) wr.drew 47 47 3 3 w.heap.size m (n - m) (n - m) ⟨w.heap.size, 0, none⟩ m n (repC v n m).toArray 3 (List.replicate q (.int .i64 v)) Try.underlying47 HSZ.out hrow.out (by simp [← hq]) (fun j u hj => by
          rw [List.getElem?_replicate] at hj
          split at hj
          · rename_i hlt2
            injection hj with hj
            subst hj
            rw [add_mk, Nat.zero_add]
            exact (Blk.cell (w := wr.drew) (t := 3) hrow.out j (by rw [List.getElem?_toArray]; exact repC_get v n m j (by omega)))
          · cases hj) (by simp [repC_length v n m c2]; omega) (fun u hu => by rw [(List.mem_replicate.1 hu).2]; rfl)
        refine ⟨_, by rw [hr, List.length_replicate]; rfl, ?_, bel_setRow (w := wr.drew) (below_drewN hbl 1) (Nat.le_refl _) _⟩
        have := repC_splice v n m q (by omega)
        unfold splice at this
        rw [setRow_heap wr.drew w.heap.size _ _ _ _ hrow.out]
        rw [← this]
        simp
      have H3 := Lib.hid (And.intro hg3 hb3); clear hg3 hb3 hq hp
      go_wp2_with fail
      go_region
      go_wp2_with fail
      go_roundg (n - (m + q))
      case measure => omega
      case rel => exact ⟨m + q, by omega, rfl, by first | rfl | go_num, fun _ => by omega, H3.out.1, H3.out.2⟩
    · obtain rfl : m = n := by omega
      have HR := Lib.hid (And.intro hrow.out hbl)
      clear hrow hp
      go_wp2_with fail
      go_ret
      refine ⟨rfl, ?_, HR.out.2⟩
      refine ⟨flat_length _, .inr ⟨w.heap.size, m, (repC v m m).toArray, by rw [List.length_replicate], Nat.le_refl _, HR.out.1, by simp, by simp only [maxLen]; omega, by simp [repC_length v m m (Nat.le_refl _), Flat.sz], ?_⟩⟩
      rw [repC_flat, List.length_replicate, List.take_of_length_le (by simp [flat_length, Flat.sz])]

end Go.Proofs.Ytpkccpegdpodoaa

/- Things that are marked: the deeds; loops over things, round by round. No program is named here. -/
namespace Go.Proofs.Ytpkccpegdpodoaa

/-- a deed -/
structure Dd where
  dd : Int
  a : Int
  b : Int
  n : Int
def newE (s : List It) (n : Int) : Int := if n < 0 ∨ 10 < n then 1 else if 100 ≤ s.length then 2 else 0
def hasAt (s : List It) (a : Int) : List Int := (s[a.toNat]?.map It.has).getD []
def heldB (s : List It) (a : Int) : Bool := (s[a.toNat]?.map It.held).getD false
def setL (d : Dd) : List Int := if d.b = -1 then [d.a] else [d.a, d.b]
noncomputable def setE (s : List It) (d : Dd) : Int := if namedE s (setL d) ≠ 0 then namedE s (setL d) else if d.n < 0 ∨ ((hasAt s d.a).length : Int) ≤ d.n then 1 else 0
def setI (kind : Int) (mk : Bool) (d : Dd) (s : List It) : List It :=
  (shadeI mk (if kind = 1 then d.b else (hasAt s d.a).getD d.n.toNat 0) s).modify d.a.toNat (It.sethas d.n.toNat d.b)
noncomputable def holdE (s : List It) (d : Dd) : Int := if namedE s [d.a] ≠ 0 then namedE s [d.a] else if d.dd = 3 ∧ heldB s d.a = false then 8 else 0
def holdI (kind : Int) (mk : Bool) (d : Dd) (s : List It) : List It :=
  (if decide (d.dd = 4) = decide (kind = 1) then shadeI mk d.a s else s).modify d.a.toNat (It.sethl (decide (d.dd = 4)))
def heldN (s : List It) : Nat := s.countP It.held

/-- what a deed comes to: a number, an error, is there marking, the things -/
noncomputable def marksI (kind : Int) (mk : Bool) (s : List It) (d : Dd) : Int × Int × Bool × List It :=
  if d.dd = 1 then (if newE s d.n ≠ 0 then (0, newE s d.n, mk, s) else ((s.length : Int), 0, mk, s ++ [newI (if mk = true then 2 else 0) d.n]))
  else if d.dd = 2 then (if setE s d ≠ 0 then (0, setE s d, mk, s) else (0, 0, mk, setI kind mk d s))
  else if d.dd = 4 ∨ d.dd = 3 then (if holdE s d ≠ 0 then (0, holdE s d, mk, s) else (0, 0, mk, holdI kind mk d s))
  else if d.dd = 6 then (if mk = true then (0, 8, mk, s) else ((heldN s : Int), 0, true, beginI s))
  else if d.dd = 5 then (if mk = false then (0, 8, mk, s) else if d.n < 0 then (0, 1, mk, s) else (((stepsI d.n.toNat s).2 : Int), 0, mk, (stepsI d.n.toNat s).1))
  else if d.dd = 7 then (if mk = false then (0, 8, mk, s) else ((endN s : Int), 0, false, endI s))
  else (0, 7, mk, s)

theorem namedE_zero {s : List It} {l : List Int} (h : namedE s l = 0) : ∀ x ∈ l, ∃ n : Nat, x = (n : Int) ∧ n < s.length ∧ RT (gHas s) (gRoots s) [] n := by
  unfold namedE at h
  split at h
  · rename_i h1
    split at h
    · rename_i h2
      intro x hx
      have a1 := inN_iff.1 (List.all_eq_true.1 h1 x hx)
      have a2 := List.all_eq_true.1 h2 x hx
      exact ⟨x.toNat, by omega, by omega, needed_RT a2⟩
    · cases h
  · cases h

theorem marks_inv {kind : Int} {mk : Bool} {s : List It} (hk : kind = 1 ∨ kind = 2) (h : MInv kind mk s) (d : Dd) : MInv kind (marksI kind mk s d).2.2.1 (marksI kind mk s d).2.2.2 := by
  unfold marksI
  split
  · split
    · exact h
    · rename_i he
      have he' : newE s d.n = 0 := by simpa using he
      unfold newE at he'
      split at he'
      · cases he'
      · split at he'
        · cases he'
        · exact h.new_ (by omega) (by omega)
  split
  · split
    · exact h
    · rename_i he
      have he' : setE s d = 0 := by simpa using he
      unfold setE at he'
      split at he'
      · rename_i h1; exact absurd he' h1
      · rename_i h1
        have hn : namedE s (setL d) = 0 := by simpa using h1
        split at he'
        · cases he'
        · rename_i h2
          have hz := namedE_zero hn
          obtain ⟨a, ha, hal, har⟩ := hz d.a (by unfold setL; split <;> simp)
          have hb : d.b = -1 ∨ ∃ b : Nat, d.b = (b : Int) ∧ b < s.length ∧ RT (gHas s) (gRoots s) [] b := by
            by_cases e : d.b = -1
            · exact .inl e
            · exact .inr (hz d.b (by unfold setL; rw [if_neg e]; simp))
          have hx : s[a]? = some s[a] := List.getElem?_eq_getElem hal
          have hat : hasAt s d.a = (s[a]).has := by unfold hasAt; rw [ha, Int.toNat_natCast, hx]; rfl
          have hnl : d.n.toNat < (s[a]).has.length := by rw [hat] at h2; omega
          have hold : (s[a]).has[d.n.toNat]? = some ((hasAt s d.a).getD d.n.toNat 0) := by
            rw [hat, List.getD_eq_getElem?_getD, List.getElem?_eq_getElem hnl]; rfl
          unfold setI
          generalize hsn : (if kind = 1 then d.b else (hasAt s d.a).getD d.n.toNat 0) = sn
          have hsh := h.shade sn
          rw [ha, Int.toNat_natCast]
          obtain ⟨z, hx', hsame⟩ : ∃ z, (shadeI mk sn s)[a]? = some z ∧ z.has = (s[a]).has := by
            unfold shadeI
            split
            · rw [get_modify]
              split
              · rw [hx]; exact ⟨_, rfl, rfl⟩
              · rw [hx]; exact ⟨_, rfl, rfl⟩
            · rw [hx]; exact ⟨_, rfl, rfl⟩
          refine hsh.set_ (old := (hasAt s d.a).getD d.n.toNat 0) ⟨_, hx', by rw [hsame]; exact hold⟩ ?_ (fun hm hk2 m hm2 => ?_) (fun hm m hm2 h0 => ?_)
          · rcases hb with e | ⟨b, e, e2, e3⟩
            · exact .inl e
            · refine .inr ⟨b, e, by rw [shadeI_length]; exact e2, ?_⟩
              rw [stAt_shade]
              split
              · simp
              · exact (h.need e3).2.1
          · rw [if_neg (by omega)] at hsn
            rw [stAt_shade]
            split
            · simp
            · rename_i hc
              intro h0
              exact hc ⟨hm, by rw [← hsn]; exact hm2, h0⟩
          · rcases hb with e | ⟨b, e, e2, e3⟩
            · omega
            · obtain rfl : b = m := by omega
              rw [stAt_shade] at h0
              split at h0
              · cases h0
              · rename_i hc
                rcases hk with hk | hk
                · exact absurd ⟨hm, by rw [← hsn, if_pos hk]; exact e, h0⟩ hc
                · refine ⟨hk, ?_⟩
                  have hp := (h.need e3).2.2 hm hk h0
                  refine hp.keep (fun i hi => ?_) (fun i hi => .inl ?_) (fun i k he _ => (edge_shade _ _ _ _ _).2 he) (by rw [stAt_shade, if_neg hc]; exact h0)
                  · rw [stAt_shade]
                    split
                    · exact .inr rfl
                    · exact .inl hi
                  · rw [stAt_shade]
                    split
                    · rfl
                    · exact hi
  split
  · rename_i h34
    split
    · exact h
    · rename_i he
      have he' : holdE s d = 0 := by simpa using he
      unfold holdE at he'
      split at he'
      · rename_i h1; exact absurd he' h1
      · rename_i h1
        have hn : namedE s [d.a] = 0 := by simpa using h1
        obtain ⟨a, ha, hal, har⟩ := namedE_zero hn d.a (by simp)
        unfold holdI
        have hneed := h.need har
        rw [ha, Int.toNat_natCast]
        split
        · rename_i hsh
          refine (h.shade _).hold_ (fun hb => ?_) (fun hb hm h0 => ?_)
          · rw [stAt_shade]
            split
            · simp
            · exact hneed.2.1
          · rw [stAt_shade] at h0
            split at h0
            · cases h0
            · rename_i hc; exact absurd ⟨hm, rfl, h0⟩ hc
        · rename_i hsh
          refine h.hold_ (fun hb => hneed.2.1) (fun hb hm h0 => ?_)
          rcases hk with hk | hk
          · rw [hb, hk] at hsh; simp at hsh
          · exact ⟨hk, hneed.2.2 hm hk h0⟩
  split
  · split
    · exact h
    · rename_i hm
      have hm' : mk = false := by simpa using hm
      subst hm'
      exact h.begin_
  split
  · split
    · exact h
    · rename_i hm
      have hm' : mk = true := by simpa using hm
      subst hm'
      split
      · exact h
      · exact h.stepsI _
  split
  · split
    · exact h
    · rename_i hm
      have hm' : mk = true := by simpa using hm
      subst hm'
      exact (h.stepsI _).sweep (stepsI_done _ _ (Nat.le_refl _))
  · exact h

/-! ### round by round -/
def beginK (k : Nat) (s : List It) : List It := s.mapIdx fun i x => if i < k ∧ x.held = true ∧ x.st = 0 then x.setst 1 else x
theorem beginK_zero (s : List It) : beginK 0 s = s := by
  apply List.ext_getElem?; intro i
  unfold beginK
  rw [List.getElem?_mapIdx]
  cases s[i]? <;> simp
theorem beginK_all (s : List It) : beginK s.length s = beginI s := by
  apply List.ext_getElem?; intro i
  unfold beginK
  rw [List.getElem?_mapIdx, beginI_get]
  cases hs : s[i]? with
  | none => rfl
  | some x => simp [(List.getElem?_eq_some_iff.1 hs).1]
theorem beginK_length (k : Nat) (s : List It) : (beginK k s).length = s.length := by simp [beginK]
theorem beginK_get (k : Nat) (s : List It) (i : Nat) {x : It} (h : s[i]? = some x) : (beginK k s)[i]? = some (if i < k ∧ x.held = true ∧ x.st = 0 then x.setst 1 else x) := by
  unfold beginK; rw [List.getElem?_mapIdx, h]; rfl
theorem beginK_step (k : Nat) (s : List It) {x : It} (h : s[k]? = some x) : beginK (k + 1) s = if x.held = true then shadeI true (k : Int) (beginK k s) else beginK k s := by
  have hk := beginK_get k s k h
  rw [if_neg (by omega)] at hk
  apply List.ext_getElem?; intro i
  cases hs : s[i]? with
  | none =>
    have hi : s.length ≤ i := by rw [List.getElem?_eq_none_iff] at hs; exact hs
    rw [List.getElem?_eq_none (by rw [beginK_length]; exact hi), List.getElem?_eq_none]
    split
    · rw [shadeI_length, beginK_length]; exact hi
    · rw [beginK_length]; exact hi
  | some y =>
    rw [beginK_get (k + 1) s i hs]
    by_cases hx : x.held = true
    · rw [if_pos hx]
      by_cases h0 : x.st = 0
      · have hsI : shadeI true (k : Int) (beginK k s) = (beginK k s).modify k (It.setst 1) := by
          unfold shadeI; rw [if_pos ⟨rfl, by omega, by rw [Int.toNat_natCast, stAt_get hk, h0]⟩, Int.toNat_natCast]
        rw [hsI, get_modify]
        by_cases e : k = i
        · subst e
          rw [h] at hs; injection hs with hs; subst hs
          rw [if_pos rfl, hk, if_pos ⟨by omega, hx, h0⟩]; rfl
        · rw [if_neg e, beginK_get k s i hs]
          have e1 : (i < k + 1) ↔ (i < k) := by omega
          simp only [e1]
      · have hsI : shadeI true (k : Int) (beginK k s) = beginK k s := if_neg (by rintro ⟨-, -, h2⟩; rw [Int.toNat_natCast, stAt_get hk] at h2; injection h2 with h2; exact h0 h2)
        rw [hsI, beginK_get k s i hs]
        by_cases e : i = k
        · subst e
          rw [h] at hs; injection hs with hs; subst hs
          rw [if_neg (by rintro ⟨-, -, h2⟩; exact h0 h2), if_neg (by omega)]
        · have e1 : (i < k + 1) ↔ (i < k) := by omega
          simp only [e1]
    · rw [if_neg hx, beginK_get k s i hs]
      by_cases e : i = k
      · subst e
        rw [h] at hs; injection hs with hs; subst hs
        rw [if_neg (by rintro ⟨-, h2, -⟩; exact hx h2), if_neg (by omega)]
      · have e1 : (i < k + 1) ↔ (i < k) := by omega
        simp only [e1]
theorem heldN_step (s : List It) (k : Nat) {x : It} (h : s[k]? = some x) : heldN (s.take (k + 1)) = heldN (s.take k) + if x.held = true then 1 else 0 := by
  unfold heldN
  rw [List.take_add_one, h]
  simp [List.countP_append, List.countP_cons]
theorem heldN_le (s : List It) : heldN s ≤ s.length := List.countP_le_length

def sweepK (k : Nat) (s : List It) : List It := s.mapIdx fun i x => if i < k then sweep1 x else x
theorem sweepK_zero (s : List It) : sweepK 0 s = s := by
  apply List.ext_getElem?; intro i
  unfold sweepK
  rw [List.getElem?_mapIdx]
  cases s[i]? <;> simp
theorem sweepK_all (s : List It) : sweepK s.length s = s.map sweep1 := by
  apply List.ext_getElem?; intro i
  unfold sweepK
  rw [List.getElem?_mapIdx, List.getElem?_map]
  cases hs : s[i]? with
  | none => rfl
  | some x => simp [(List.getElem?_eq_some_iff.1 hs).1]
theorem sweepK_length (k : Nat) (s : List It) : (sweepK k s).length = s.length := by simp [sweepK]
theorem sweepK_get (k : Nat) (s : List It) (i : Nat) {x : It} (h : s[i]? = some x) : (sweepK k s)[i]? = some (if i < k then sweep1 x else x) := by
  unfold sweepK; rw [List.getElem?_mapIdx, h]; rfl
theorem sweepK_step (k : Nat) (s : List It) (f : It → It) {x : It} (h : s[k]? = some x) (hf : f x = sweep1 x) : sweepK (k + 1) s = (sweepK k s).modify k f := by
  apply List.ext_getElem?; intro i
  rw [get_modify]
  cases hs : s[i]? with
  | none =>
    have hi : s.length ≤ i := by rw [List.getElem?_eq_none_iff] at hs; exact hs
    rw [List.getElem?_eq_none (by rw [sweepK_length]; exact hi), List.getElem?_eq_none (by rw [sweepK_length]; exact hi)]
    simp
  | some y =>
    rw [sweepK_get (k + 1) s i hs, sweepK_get k s i hs]
    by_cases e : k = i
    · subst e
      rw [h] at hs; injection hs with hs; subst hs
      rw [if_pos rfl, if_pos (by omega), if_neg (by omega)]
      simp [hf]
    · rw [if_neg e]
      have e1 : (i < k + 1) ↔ (i < k) := by omega
      simp only [e1]
def whiteN (s : List It) : Nat := s.countP fun x => decide (x.st = 0)
theorem whiteN_step (s : List It) (k : Nat) {x : It} (h : s[k]? = some x) : whiteN (s.take (k + 1)) = whiteN (s.take k) + if x.st = 0 then 1 else 0 := by
  unfold whiteN
  rw [List.take_add_one, h]
  simp [List.countP_append, List.countP_cons]
theorem whiteN_le (s : List It) : whiteN s ≤ s.length := List.countP_le_length
theorem are_whiteN (s : List It) : (are s 0).length = whiteN s := by
  have key : ∀ (l : List Bool) (i : Nat), (risingFrom i l).length = l.countP id := by
    intro l
    induction l with
    | nil => intro i; rfl
    | cons b l ih =>
      intro i
      have h := ih (i + 1)
      cases b with
      | true => simp [risingFrom, h, List.countP_cons]
      | false => simp [risingFrom, h, List.countP_cons]
  unfold are whiteN rising
  rw [key, List.countP_map]
  rfl

end Go.Proofs.Ytpkccpegdpodoaa

/- R.Model: shade; what is wrong with a deed that makes. mark: make. R.Model: more. -/
namespace Go.Proofs.Ytpkccpegdpodoaa
open Go.RowKit

attribute [local go_sem ↓] Go.wp_at_zero Go.wp_at_succ

set_option maxHeartbeats 800000 in
set_option maxRecDepth 100000 in
theorem rshadeL_any (w : World) (base p : Nat) (F : Nat → Prop) (nu kind n : Int) (mk : Bool) (A : Option Addr) (c : Nat) (s : List It) (l : List ItR) (h : MdlL w base F p nu kind mk A c s l) (hn : n = -1 ∨ ∃ m : Nat, n = (m : Int) ∧ m < s.length) (hs : s.length ≤ 1000) :
    Calls Try.prog 131 #[.pointer (some ⟨p, 0, none⟩), .int .i64 n] w fun e w' => e = .returned (.tuple #[]) ∧ (∃ l', MdlL w' base F p nu kind mk A c (shadeI mk n s) l' ∧ SameA l l') ∧ Touch F w w' ∧ IntKeep w w' ∧ w'.heap.size = w.heap.size := by
  have H := Lib.hid h
  obtain ⟨h1, h2, h3, h4, h5⟩ := h
  have c1 := h1.cell 3 (v := .bool mk) rfl
  have c2 := h1.cell 0 (v := .slice A l.length c) rfl
  have HS := Lib.hid h5
  rcases hn with rfl | ⟨m, rfl, hm⟩
  · have e1 : shadeI mk (-1) s = s := if_neg (by rintro ⟨-, h, -⟩; omega)
    rw [e1]
    clear h1 h2 h5 e1
    cases mk
    all_goals
      go_enter Try.func131, Try.ntmps131
      go_wp2
      go_end0
      exact ⟨rfl, ⟨l, H.out, SameA.refl l⟩, Touch.refl _ _, IntKeep.refl _, rfl⟩
  · rw [← h5, its_length] at hm
    rw [← h5, its_length] at hs
    obtain ⟨x, hx⟩ : ∃ x, l[m]? = some x := ⟨_, List.getElem?_eq_getElem hm⟩
    obtain ⟨g, rfl, hg1, hg2, q0, q1, q2⟩ := h2.cells hx
    have hst : stAt s m = some x.st := by rw [← h5]; exact stAt_get (its_get hx)
    have b0 : (0 : Int) ≤ (m : Int) := by omega
    have d9 : ((m : Int) != -1) = true := by simp
    have b1 : (m : Int) < (l.length : Int) := by omega
    have hne : g ≠ p := fun e => own_ne_ty h2.row h1 (by decide) (by rw [e]; rfl)
    have z1 := h2.row.frozen (g := g) rfl (m * 3 + 1)
    have hgF := h2.foot g rfl
    have hset := h2.setSt hx (by decide) 1 (by unfold I64; omega)
    have hblk := h1.far (p := ⟨g, m * 3 + 1, none⟩) (fun e => hne e.symm) (.int .i64 1)
    have hits := its_set l m x { x with st := 1 } (It.setst 1) hx rfl
    rw [h5] at hits
    obtain ⟨v, hv⟩ : ∃ v, x.st = v := ⟨_, rfl⟩
    rw [hv] at hst q1
    have hln : (l.set m { x with st := 1 }).length = l.length := List.length_set
    have hik := IntKeep.set h2.row (by decide) (m * 3 + 1) (.int .i64 1)
    have hsa := SameA.set (y := { x with st := 1 }) hx rfl rfl
    have HB := Lib.hid (And.intro hset (And.intro hblk (And.intro hits (And.intro hst (And.intro hln (And.intro hik hsa))))))
    clear h1 h2 h5 hx q0 q2 hst hset hblk hits hv hln hik hsa
    by_cases hc : mk = true ∧ v = 0
    · obtain ⟨rfl, rfl⟩ := hc
      go_enter Try.func131, Try.ntmps131
      go_wp2
      go_end0
      obtain ⟨k1, k2, k3, k4, k5, k6, k7⟩ := HB.out
      have e1 : shadeI true (m : Int) s = s.modify m (It.setst 1) := by unfold shadeI; rw [if_pos ⟨rfl, by omega, by simpa using k4⟩]; simp
      rw [e1]
      exact ⟨rfl, ⟨_, ⟨by rw [k5]; exact k2, k1, h3, h4, k3⟩, k7⟩, (Touch.refl _ _).setCell hgF _, k6, by simp [World.setCell]⟩
    · have e1 : shadeI mk (m : Int) s = s := if_neg (by rintro ⟨h, -, h'⟩; exact hc ⟨h, by rw [Int.toNat_natCast, HB.out.2.2.2.1] at h'; injection h'⟩)
      rw [e1]
      have HC := Lib.hid e1; clear e1
      cases mk with
      | false =>
        clear hc
        go_enter Try.func131, Try.ntmps131
        go_wp2
        go_end0
        exact ⟨rfl, ⟨l, H.out, SameA.refl l⟩, Touch.refl _ _, IntKeep.refl _, rfl⟩
      | true =>
        have d0 : (v == 0) = false := by simp at hc; simpa using hc
        clear hc
        go_enter Try.func131, Try.ntmps131
        go_wp2
        go_end0
        exact ⟨rfl, ⟨l, H.out, SameA.refl l⟩, Touch.refl _ _, IntKeep.refl _, rfl⟩
theorem rshadeA_any (w : World) (base p : Nat) (F : Nat → Prop) (nu kind n : Int) (mk : Bool) (A : Option Addr) (c : Nat) (s : List It) (h : MdlA w base F p nu kind mk A c s) (hn : n = -1 ∨ ∃ m : Nat, n = (m : Int) ∧ m < s.length) (hs : s.length ≤ 1000) :
    Calls Try.prog 131 #[.pointer (some ⟨p, 0, none⟩), .int .i64 n] w fun e w' => e = .returned (.tuple #[]) ∧ MdlA w' base F p nu kind mk A c (shadeI mk n s) ∧ Touch F w w' ∧ IntKeep w w' ∧ w'.heap.size = w.heap.size := by
  obtain ⟨l, h⟩ := h
  exact (rshadeL_any w base p F nu kind n mk A c s l h hn hs).mono fun e w' ⟨h1, ⟨l', h2, _⟩, h3⟩ => ⟨h1, ⟨l', h2⟩, h3⟩
theorem rshade_any (w : World) (base p : Nat) (F : Nat → Prop) (nu kind n : Int) (mk : Bool) (s : List It) (h : Mdl w base F p nu kind mk s) (hn : n = -1 ∨ ∃ m : Nat, n = (m : Int) ∧ m < s.length) (hs : s.length ≤ 1000) :
    Calls Try.prog 131 #[.pointer (some ⟨p, 0, none⟩), .int .i64 n] w fun e w' => e = .returned (.tuple #[]) ∧ Mdl w' base F p nu kind mk (shadeI mk n s) ∧ Touch F w w' ∧ IntKeep w w' ∧ w'.heap.size = w.heap.size := by
  obtain ⟨A, c, h⟩ := h
  exact (rshadeA_any w base p F nu kind n mk A c s h hn hs).mono fun e w' ⟨h1, h2, h3⟩ => ⟨h1, ⟨A, c, h2⟩, h3⟩


def ddV (d : Dd) : Value := .agg #[.int .i64 d.dd, .int .i64 d.a, .int .i64 d.b, .int .i64 d.n]

set_option maxHeartbeats 800000 in
set_option maxRecDepth 100000 in
theorem newFault_any (w : World) (base p : Nat) (F : Nat → Prop) (nu kind dd a b n : Int) (mk : Bool) (s : List It) (h : Mdl w base F p nu kind mk s) (hs : s.length ≤ 1000) :
    Calls Try.prog 128 #[.pointer (some ⟨p, 0, none⟩), .agg #[.int .i64 dd, .int .i64 a, .int .i64 b, .int .i64 n]] w fun e w' => e = .returned (.int .i64 (newE s n)) ∧ Below w.heap.size w w' := by
  obtain ⟨A, c, l, h1, h2, h3, h4, h5⟩ := h
  have hl : s.length = l.length := by rw [← h5, its_length]
  have c0 := h1.cell 0 (v := .slice A l.length c) rfl
  have hplt := h1.lt
  rw [hl] at hs
  have HL := Lib.hid hl; clear h1 h2 h3 h5 hl
  by_cases h1 : n < 0
  · have HE := Lib.hid (show newE s n = 1 from if_pos (.inl h1))
    go_enter Try.func128, Try.ntmps128
    go_wp2
    go_ret
    exact ⟨by rw [HE.out]; rfl, (Below.refl _ _).alloc (Nat.le_refl _) _⟩
  · by_cases h2 : 10 < n
    · have HE := Lib.hid (show newE s n = 1 from if_pos (.inr h2))
      go_enter Try.func128, Try.ntmps128
      go_wp2
      go_ret
      exact ⟨by rw [HE.out]; rfl, (Below.refl _ _).alloc (Nat.le_refl _) _⟩
    · by_cases h3 : 100 ≤ l.length
      · have HE := Lib.hid (show newE s n = 2 by unfold newE; rw [if_neg (by omega), if_pos (by rw [HL.out]; exact h3)])
        go_enter Try.func128, Try.ntmps128
        go_wp2
        go_ret
        exact ⟨by rw [HE.out]; rfl, (Below.refl _ _).alloc (Nat.le_refl _) _⟩
      · have HE := Lib.hid (show newE s n = 0 by unfold newE; rw [if_neg (by omega), if_neg (by rw [HL.out]; exact h3)])
        have h3' : l.length < 100 := by omega
        go_enter Try.func128, Try.ntmps128
        go_wp2
        go_ret
        exact ⟨by rw [HE.out]; rfl, (Below.refl _ _).alloc (Nat.le_refl _) _⟩

theorem make_no (w : World) (base p : Nat) (F : Nat → Prop) (kind n : Int) (mk : Bool) (s : List It) (h : Mkr w base F p kind mk s) (hs : s.length ≤ 1000) (he : newE s n ≠ 0) :
    Calls Try.prog 122 #[.pointer (some ⟨p, 0, none⟩), .int .i64 n] w fun e w' => e = .returned (.tuple #[.int .i64 0, .int .i64 (newE s n)]) ∧ w = w' := by
  obtain ⟨A, c, l, h1, h2, h3, h4, h5⟩ := h
  have hl : s.length = l.length := by rw [← h5, its_length]
  have c0 := h1.cell 2 (v := .slice A l.length c) rfl
  rw [hl] at hs
  have HL := Lib.hid (And.intro hl he); clear h1 h2 h3 h5 hl he
  by_cases h1 : n < 0
  · have HE := Lib.hid (show newE s n = 1 from if_pos (.inl h1))
    go_enter Try.func122, Try.ntmps122
    go_wp2
    go_ret2
    exact ⟨by rw [HE.out]; rfl, rfl⟩
  · by_cases h2 : 10 < n
    · have HE := Lib.hid (show newE s n = 1 from if_pos (.inr h2))
      go_enter Try.func122, Try.ntmps122
      go_wp2
      go_ret2
      exact ⟨by rw [HE.out]; rfl, rfl⟩
    · have h3 : 100 ≤ l.length := by
        have := HL.out.2
        unfold newE at this
        rw [if_neg (by omega)] at this
        have hq := HL.out.1
        split at this <;> omega
      have HE := Lib.hid (show newE s n = 2 by unfold newE; rw [if_neg (by omega), if_pos (by rw [HL.out.1]; exact h3)])
      go_enter Try.func122, Try.ntmps122
      go_wp2
      go_ret2
      exact ⟨by rw [HE.out]; rfl, rfl⟩

theorem infoThing : (Try.prog.info? 187).map (fun i => (i.zero, i.size, i.bytes)) = some (some (.agg #[.slice none 0 0, .int .i64 0, .bool false]), 3, 40) := by kernel_rfl
theorem infoItem : (Try.prog.info? 104).map (fun i => (i.zero, i.size, i.bytes)) = some (some (.agg #[.slice none 0 0, .int .i64 0, .bool false]), 3, 40) := by kernel_rfl
theorem newE_ok {s : List It} {n : Int} (h : newE s n = 0) : 0 ≤ n ∧ n ≤ 10 ∧ s.length < 100 := by
  unfold newE at h
  split at h
  · cases h
  · split at h
    · cases h
    · omega

set_option maxHeartbeats 1600000 in
set_option maxRecDepth 100000 in
theorem make_yes (w : World) (base p : Nat) (F : Nat → Prop) (kind n : Int) (mk : Bool) (s : List It) (h : Mkr w base F p kind mk s) (hF : ∀ g, F g → g < w.heap.size) (he : newE s n = 0) :
    Calls Try.prog 122 #[.pointer (some ⟨p, 0, none⟩), .int .i64 n] w fun e w' => e = .returned (.tuple #[.int .i64 s.length, .int .i64 0]) ∧ Mkr w' base (Up F w w') p kind mk (s ++ [newI (if mk = true then 2 else 0) n]) ∧ Touch F w w' := by
  obtain ⟨i0, hi, hz0, hz1, hz2⟩ := info_parts infoThing
  obtain ⟨A, c, l, h1, h2, h3, h4, h5⟩ := h
  have hl : s.length = l.length := by rw [← h5, its_length]
  obtain ⟨e1, e2, e3⟩ := newE_ok he
  rw [hl] at e3 ⊢
  obtain ⟨j, rfl⟩ := Int.eq_ofNat_of_zero_le e1
  obtain ⟨L, hL⟩ : ∃ L, l.length = L := ⟨_, rfl⟩
  rw [hL] at h1 e3 ⊢
  have c0 := h1.cell 2 (v := .slice A L c) rfl
  have c1 := h1.cell 1 (v := .bool mk) rfl
  have hplt := h1.lt
  have d1 : ¬ (j : Int) < 0 := by omega
  have d2 : ¬ (10 : Int) < (j : Int) := by omega
  have d3 : ¬ (100 : Int) ≤ (L : Int) := by omega
  obtain ⟨st, hst⟩ : ∃ st : Int, (if mk = true then 2 else 0) = st := ⟨_, rfl⟩
  rw [hst]
  have hst2 : I64 st := by rw [← hst]; unfold I64; split <;> omega
  have HST := Lib.hid (And.intro hst2 hst); clear hst2 hst
  have hbase : base ≤ w.heap.size := by omega
  have H := Lib.hid (And.intro h1 (And.intro h2 (And.intro h3 (And.intro h5 (And.intro hF hL))))); clear h1 h2 h3 h5 hF hL hl he
  go_enter Try.func122, Try.ntmps122
  go_wp2_with fail
  refine calls_world (fun V => V = w.alloc (.cells #[.int .i64 (-1)] 3)) rfl ?_
  rintro V hV
  have hAt : At V V.heap.size (some ⟨w.heap.size, 0, none⟩) [(-1 : Int)] := by
    rw [hV]
    have := At.built w #[.int .i64 (-1)] 3 [(-1 : Int)] rfl (by intro z hz; simp at hz; subst hz; exact (by unfold I64; omega : I64 (-1)))
    exact this.more (by simp)
  have hVs : V.heap.size = w.heap.size + 1 := by rw [hV]; simp
  have hbV : Below w.heap.size w V := by rw [hV]; exact (Below.refl _ _).alloc (Nat.le_refl _) _
  clear hV
  refine (repeatInt_any (some ⟨w.heap.size, 0, none⟩) 1 V.heap.size j (-1) V hAt (Nat.le_refl _) (Nat.le_refl _) (by omega)).mono ?_
  rintro e w1 ⟨rfl, ho1, hb1⟩
  have hs1 := hb1.size
  have hR := (ho1.lt V.heap.size rfl).2
  have hb : Below w.heap.size w w1 := hbV.trans (hb1.mono (by omega))
  rw [hVs] at ho1 hR
  rw [hVs]
  have H1 := Lib.hid (And.intro ho1 (And.intro (H.out.1.fresh hb) (And.intro (H.out.2.1.fresh hb) hb))); clear ho1 hb1 hbV hAt hb hVs c0 c1
  have c0 := H1.out.2.1.cell 2 (v := .slice A L c) rfl
  have c1 := H1.out.2.1.cell 1 (v := .bool mk) rfl
  have hp1 := H1.out.2.1.lt
  rcases Bool.eq_false_or_eq_true mk with hmk | hmk
  all_goals
    rw [hmk] at c1
    have hst := HST.out.2
    rw [hmk] at hst
    have HMK := Lib.hid (And.intro hmk hst); clear hmk hst
    go_wp2_with fail
    have hst := HMK.out.2
    refine wp_world (fun W => Blk W p 182 #[.int .i64 kind, .bool mk, .slice A L c] ∧ Its W base F 187 A c l ∧ Blk W w1.heap.size 187 #[.slice (some ⟨w.heap.size + 1, 0, none⟩) j j, .int .i64 st, .bool true] ∧ Own W (w.heap.size + 1) 3 (some ⟨w.heap.size + 1, 0, none⟩) j (List.replicate j (-1)) ∧ Below w.heap.size w W ∧ w1.heap.size < W.heap.size) ⟨H1.out.2.1.alloc _, H1.out.2.2.1.alloc _, by first | (rw [← hst]; exact Blk.new _ _ _), H1.out.1.alloc _, H1.out.2.2.2.alloc (by omega) _, by simp⟩ ?_
    rintro W hW
    have c0 := hW.1.cell 2 (v := .slice A L c) rfl
    have x0 := hW.2.2.1.cell 0 (v := .slice (some ⟨w.heap.size + 1, 0, none⟩) j j) rfl
    have x1 := hW.2.2.1.cell 1 (v := .int .i64 st) rfl
    have x2 := hW.2.2.1.cell 2 (v := .bool true) rfl
    have hsW := hW.2.2.2.2.2
    have y0 : (W.alloc (.cells #[.slice (some ⟨w.heap.size + 1, 0, none⟩) j j, .int .i64 st, .bool true] 187)).cell? ⟨w1.heap.size, 0, none⟩ = some (.slice (some ⟨w.heap.size + 1, 0, none⟩) j j) := (World.cell?_alloc_lt _ _ _ (by simp; omega)).trans x0
    have y1 : (W.alloc (.cells #[.slice (some ⟨w.heap.size + 1, 0, none⟩) j j, .int .i64 st, .bool true] 187)).cell? ⟨w1.heap.size, 1, none⟩ = some (.int .i64 st) := (World.cell?_alloc_lt _ _ _ (by simp; omega)).trans x1
    have y2 : (W.alloc (.cells #[.slice (some ⟨w.heap.size + 1, 0, none⟩) j j, .int .i64 st, .bool true] 187)).cell? ⟨w1.heap.size, 2, none⟩ = some (.bool true) := (World.cell?_alloc_lt _ _ _ (by simp; omega)).trans x2
    have yc : (W.alloc (.cells #[.slice (some ⟨w.heap.size + 1, 0, none⟩) j j, .int .i64 st, .bool true] 187)).cell? ⟨p, 2, none⟩ = some (.slice A L c) := (World.cell?_alloc_lt _ _ _ (by simp; omega)).trans c0
    have HW := Lib.hid hW; clear hW hst
    refine wp_region_held_drew (S := (fun w' => w'.cell? ⟨w1.heap.size, 0, none⟩ = some (.slice (some ⟨w.heap.size + 1, 0, none⟩) j j) ∧ w'.cell? ⟨w1.heap.size, 1, none⟩ = some (.int .i64 st) ∧ w'.cell? ⟨w1.heap.size, 2, none⟩ = some (.bool true))) (by kernel_rfl) ?_ (fun hHeld0 => ?_)
    · first | trivial | ((try dsimp only); (exact ⟨x0, x1, x2⟩))
    refine held_take (v := ?_) 0 rfl (by kernel_rfl) (by kernel_rfl) (by kernel_rfl) (fun _ _ _ h => h) (by rfl) ?_ (by assumption) ?_
    rotate_left
    · (intro w hSw; (try dsimp only at hSw); go_simp; try with_reducible rfl)
    try simp only [Act.put, List.setIfInBounds_toArray, List.set_cons_zero, List.set_cons_succ]
    refine held_take (v := ?_) 1 rfl (by kernel_rfl) (by kernel_rfl) (by kernel_rfl) (fun _ _ _ h => h) (by rfl) ?_ (by assumption) ?_
    rotate_left
    · (intro w hSw; (try dsimp only at hSw); go_simp; try with_reducible rfl)
    try simp only [Act.put, List.setIfInBounds_toArray, List.set_cons_zero, List.set_cons_succ]
    refine held_take (v := ?_) 2 rfl (by kernel_rfl) (by kernel_rfl) (by kernel_rfl) (fun _ _ _ h => h) (by rfl) ?_ (by assumption) ?_
    rotate_left
    · (intro w hSw; (try dsimp only at hSw); go_simp; try with_reducible rfl)
    try simp only [Act.put, List.setIfInBounds_toArray, List.set_cons_zero, List.set_cons_succ]
    refine held_take (v := ?_) 3 rfl (by kernel_rfl) (by kernel_rfl) (by kernel_rfl) (fun _ _ _ h => h) (by rfl) ?_ (by assumption) ?_
    rotate_left
    · (intro w hSw; (try dsimp only at hSw); go_simp; try with_reducible rfl)
    try simp only [Act.put, List.setIfInBounds_toArray, List.set_cons_zero, List.set_cons_succ]
    refine held_take (v := ?_) 5 rfl (by kernel_rfl) (by kernel_rfl) (by kernel_rfl) (fun _ _ _ h => h) (by rfl) ?_ (by assumption) ?_
    rotate_left
    · (intro w hSw; (try dsimp only at hSw); go_simp; try with_reducible rfl)
    try simp only [Act.put, List.setIfInBounds_toArray, List.set_cons_zero, List.set_cons_succ]
    refine held_call2 4 6 (by kernel_rfl) rfl rfl (fun K hK => ?_) (fun K hK => ?_)
    · go_simp
      skip
      refine hK.out _ _ ?_ (fun hHeld1 => ?_)
      · first | trivial | ((try dsimp only); (exact ⟨x0, x1, x2⟩))
      clear hK K hHeld0
      try simp only [Act.put, List.setIfInBounds_toArray, List.set_cons_zero, List.set_cons_succ]
      refine held_call 6 (by kernel_rfl) rfl (fun K hK => ?_)
      go_simp
      skip
      refine hK.out _ _ ?_ (fun hHeld2 => ?_)
      · first | trivial | ((try dsimp only); (exact ⟨y0, y1, y2⟩))
      clear hK K hHeld1
      try simp only [Act.put, List.setIfInBounds_toArray, List.set_cons_zero, List.set_cons_succ]
      refine held_call 7 (by kernel_rfl) rfl (fun K hK => ?_)
      refine step_app (α := ItR) (n := L) (m := 1) (nm := L + 1) (r := [⟨some ⟨w.heap.size + 1, 0, none⟩, j, List.replicate j (-1), st, true⟩]) (by rfl) (.tmp 34) (.tmp 36) _ (by rfl) base 187 i0 _ 40 Try.underlying180 hi hz0 hz1 hz2 rfl (by decide) itr_one (by rfl) H.out.2.2.2.2.2 ((HW.out.2.1.row.alloc (.cells #[.slice (some ⟨w.heap.size + 1, 0, none⟩) j j, .int .i64 st, .bool true] 187)).drew) (B := W.heap.size + 1) (X := some ⟨W.heap.size, 0, none⟩) (d := 1) (by rfl) ((At.built W #[.slice (some ⟨w.heap.size + 1, 0, none⟩) j j, .int .i64 st, .bool true] 187 [(⟨some ⟨w.heap.size + 1, 0, none⟩, j, List.replicate j (-1), st, true⟩ : ItR)] (by simp [flat, Flat.cells]) (fun _ _ => trivial)).drew) rfl rfl (by omega) (by simp only [maxLen]; omega) (by simp; omega) ?_; intro A3 c3 w3 ho3 hgr3 hat3; have hs3 := hgr3.size; simp only [World.size_alloc, World.size_drew] at hs3; have n1 := ((HW.out.1.alloc (.cells #[.slice (some ⟨w.heap.size + 1, 0, none⟩) j j, .int .i64 st, .bool true] 187)).drew).grown hgr3 (fun e => own_ne_ty ((HW.out.2.1.row.alloc (.cells #[.slice (some ⟨w.heap.size + 1, 0, none⟩) j j, .int .i64 st, .bool true] 187)).drew) ((HW.out.1.alloc (.cells #[.slice (some ⟨w.heap.size + 1, 0, none⟩) j j, .int .i64 st, .bool true] 187)).drew) (by decide) e); have n2 := ((HW.out.2.2.1.alloc (.cells #[.slice (some ⟨w.heap.size + 1, 0, none⟩) j j, .int .i64 st, .bool true] 187)).drew).grown hgr3 (fun e => by have := H.out.2.2.2.2.1 _ (HW.out.2.1.foot _ e); omega); have m0 := n2.cell 0 (v := .slice (some ⟨w.heap.size + 1, 0, none⟩) j j) rfl; have m1 := n2.cell 1 (v := .int .i64 st) rfl; have m2 := n2.cell 2 (v := .bool true) rfl; have z2 := n1.frozen 2; have mc := n1.cell 2 (v := .slice A L c) rfl
      refine hK.out _ _ ?_ (fun hHeld3 => ?_)
      · first | trivial | ((try dsimp only); (exact ⟨m0, m1, m2⟩))
      clear hK K hHeld2
      try simp only [Act.put, List.setIfInBounds_toArray, List.set_cons_zero, List.set_cons_succ]
      refine held_take (v := ?_) 8 rfl (by kernel_rfl) (by kernel_rfl) (by kernel_rfl) (fun _ _ _ h => h) (by rfl) ?_ (by assumption) ?_
      rotate_left
      · (intro w hSw; (try dsimp only at hSw); go_simp; try with_reducible rfl)
      try simp only [Act.put, List.setIfInBounds_toArray, List.set_cons_zero, List.set_cons_succ]
      refine held_take (v := ?_) 9 rfl (by kernel_rfl) (by kernel_rfl) (by kernel_rfl) (fun _ _ _ h => h) (by rfl) ?_ (by assumption) ?_
      rotate_left
      · (intro w hSw; (try dsimp only at hSw); go_simp; try with_reducible rfl)
      try simp only [Act.put, List.setIfInBounds_toArray, List.set_cons_zero, List.set_cons_succ]
      refine held_call 10 (by kernel_rfl) rfl (fun K hK => ?_)
      go_simp
      skip
      refine hK.out _ _ ?_ (fun hHeld4 => ?_)
      · first | trivial | ((try dsimp only); (exact ⟨(n2.far (p := ⟨p, 2, none⟩) (fun e => by simp at e; omega) _).cell 0 rfl, (n2.far (p := ⟨p, 2, none⟩) (fun e => by simp at e; omega) _).cell 1 rfl, (n2.far (p := ⟨p, 2, none⟩) (fun e => by simp at e; omega) _).cell 2 rfl⟩))
      clear hK K hHeld3
      try simp only [Act.put, List.setIfInBounds_toArray, List.set_cons_zero, List.set_cons_succ]
      refine wpAnyH_done (by kernel_rfl) ?_ _
      have HZ := Lib.hid (And.intro n1 (And.intro n2 (And.intro ho3 (And.intro hgr3 hat3)))); clear n1 n2 ho3 hgr3 hat3 mc m0 m1 m2 c0 x0 x1 x2 y0 y1 y2 yc
      go_upto_region 9 with fail
      refine wp_world (fun V => Hid (Mkr V base (Up F w w3) p kind mk (s ++ [newI st (j : Int)]) ∧ Touch F w V) ∧ V.cell? ⟨p, 2, none⟩ = some (.slice A3 (L + 1) c3) ∧ V.heap.size = w3.heap.size) ⟨⟨?_, ?_⟩, (HZ.out.1.set_ 2 _).cell 2 rfl, by simp⟩ ?_
      · refine ⟨A3, c3, _, ?_, (((HW.out.2.1.alloc (.cells #[.slice (some ⟨w.heap.size + 1, 0, none⟩) j j, .int .i64 st, .bool true] 187)).drew).push (F' := Up F w w3) (by decide) HZ.out.2.2.1 HZ.out.2.2.2.1 HZ.out.2.2.2.2 (fun g hg => .inl hg) (fun g hg => ?_) (((HW.out.2.2.2.1.base_le (by omega : base ≤ w.heap.size + 1)).alloc (.cells #[.slice (some ⟨w.heap.size + 1, 0, none⟩) j j, .int .i64 st, .bool true] 187)).drew) (fun g hg => ?_) (fun k hk => by rw [(List.mem_replicate.1 hk).2]; unfold I64; omega) HST.out.1).far_blk HZ.out.1 (by decide) (by decide) _ _, .inl H.out.2.2.1, h4, ?_⟩
        · have := HZ.out.1.set_ 2 (.slice A3 (L + 1) c3)
          rw [List.length_append, H.out.2.2.2.2.2]; exact this
        · rcases HZ.out.2.2.2.2 with e | e
          · exact .inl (HW.out.2.1.foot g (by rw [← e]; exact hg))
          · have hg0 := (HZ.out.2.2.1.lt g hg).2; rw [e] at hg; injection hg with hg; simp at hg; exact .inr ⟨by omega, hg0⟩
        · injection hg with hg; simp only at hg
          subst hg
          exact ⟨.inr ⟨by omega, by omega⟩, fun e => by have := H.out.2.2.2.2.1 _ e; omega⟩
        · show its (l ++ [_]) = _
          unfold its; rw [List.map_append]
          have := H.out.2.2.2.1
          unfold its at this
          rw [this]; simp [ItR.it, newI]
      · exact ((((Touch.ofBelow HW.out.2.2.2.2.1).alloc (.cells #[.slice (some ⟨w.heap.size + 1, 0, none⟩) j j, .int .i64 st, .bool true] 187)).drew.grown HZ.out.2.2.2.1 (fun g hg => HW.out.2.1.foot g hg)).setCell H.out.2.2.1 _)
      rintro V ⟨hV, v0, hVs⟩
      go_wp2_with fail
      go_ret2
      exact ⟨by first | rfl | (congr 3; omega), hV.out.1.mono (fun g hg => Up.more (w1 := w3) (by omega) hg), hV.out.2⟩
    · go_simp
      skip
      refine hK.out _ _ ?_ (fun hHeld1 => ?_)
      · first | trivial | ((try dsimp only); (exact ⟨y0, y1, y2⟩))
      clear hK K hHeld0
      try simp only [Act.put, List.setIfInBounds_toArray, List.set_cons_zero, List.set_cons_succ]
      refine held_call 4 (by kernel_rfl) rfl (fun K hK => ?_)
      go_simp
      skip
      refine hK.out _ _ ?_ (fun hHeld2 => ?_)
      · first | trivial | ((try dsimp only); (exact ⟨y0, y1, y2⟩))
      clear hK K hHeld1
      try simp only [Act.put, List.setIfInBounds_toArray, List.set_cons_zero, List.set_cons_succ]
      refine held_call 7 (by kernel_rfl) rfl (fun K hK => ?_)
      refine step_app (α := ItR) (n := L) (m := 1) (nm := L + 1) (r := [⟨some ⟨w.heap.size + 1, 0, none⟩, j, List.replicate j (-1), st, true⟩]) (by rfl) (.tmp 34) (.tmp 36) _ (by rfl) base 187 i0 _ 40 Try.underlying180 hi hz0 hz1 hz2 rfl (by decide) itr_one (by rfl) H.out.2.2.2.2.2 ((HW.out.2.1.row.alloc (.cells #[.slice (some ⟨w.heap.size + 1, 0, none⟩) j j, .int .i64 st, .bool true] 187)).drew) (B := W.heap.size + 1) (X := some ⟨W.heap.size, 0, none⟩) (d := 1) (by rfl) ((At.built W #[.slice (some ⟨w.heap.size + 1, 0, none⟩) j j, .int .i64 st, .bool true] 187 [(⟨some ⟨w.heap.size + 1, 0, none⟩, j, List.replicate j (-1), st, true⟩ : ItR)] (by simp [flat, Flat.cells]) (fun _ _ => trivial)).drew) rfl rfl (by omega) (by simp only [maxLen]; omega) (by simp; omega) ?_; intro A3 c3 w3 ho3 hgr3 hat3; have hs3 := hgr3.size; simp only [World.size_alloc, World.size_drew] at hs3; have n1 := ((HW.out.1.alloc (.cells #[.slice (some ⟨w.heap.size + 1, 0, none⟩) j j, .int .i64 st, .bool true] 187)).drew).grown hgr3 (fun e => own_ne_ty ((HW.out.2.1.row.alloc (.cells #[.slice (some ⟨w.heap.size + 1, 0, none⟩) j j, .int .i64 st, .bool true] 187)).drew) ((HW.out.1.alloc (.cells #[.slice (some ⟨w.heap.size + 1, 0, none⟩) j j, .int .i64 st, .bool true] 187)).drew) (by decide) e); have n2 := ((HW.out.2.2.1.alloc (.cells #[.slice (some ⟨w.heap.size + 1, 0, none⟩) j j, .int .i64 st, .bool true] 187)).drew).grown hgr3 (fun e => by have := H.out.2.2.2.2.1 _ (HW.out.2.1.foot _ e); omega); have m0 := n2.cell 0 (v := .slice (some ⟨w.heap.size + 1, 0, none⟩) j j) rfl; have m1 := n2.cell 1 (v := .int .i64 st) rfl; have m2 := n2.cell 2 (v := .bool true) rfl; have z2 := n1.frozen 2; have mc := n1.cell 2 (v := .slice A L c) rfl
      refine hK.out _ _ ?_ (fun hHeld3 => ?_)
      · first | trivial | ((try dsimp only); (exact ⟨m0, m1, m2⟩))
      clear hK K hHeld2
      try simp only [Act.put, List.setIfInBounds_toArray, List.set_cons_zero, List.set_cons_succ]
      refine held_take (v := ?_) 8 rfl (by kernel_rfl) (by kernel_rfl) (by kernel_rfl) (fun _ _ _ h => h) (by rfl) ?_ (by assumption) ?_
      rotate_left
      · (intro w hSw; (try dsimp only at hSw); go_simp; try with_reducible rfl)
      try simp only [Act.put, List.setIfInBounds_toArray, List.set_cons_zero, List.set_cons_succ]
      refine held_take (v := ?_) 9 rfl (by kernel_rfl) (by kernel_rfl) (by kernel_rfl) (fun _ _ _ h => h) (by rfl) ?_ (by assumption) ?_
      rotate_left
      · (intro w hSw; (try dsimp only at hSw); go_simp; try with_reducible rfl)
      try simp only [Act.put, List.setIfInBounds_toArray, List.set_cons_zero, List.set_cons_succ]
      refine held_call 10 (by kernel_rfl) rfl (fun K hK => ?_)
      go_simp
      skip
      refine hK.out _ _ ?_ (fun hHeld4 => ?_)
      · first | trivial | ((try dsimp only); (exact ⟨(n2.far (p := ⟨p, 2, none⟩) (fun e => by simp at e; omega) _).cell 0 rfl, (n2.far (p := ⟨p, 2, none⟩) (fun e => by simp at e; omega) _).cell 1 rfl, (n2.far (p := ⟨p, 2, none⟩) (fun e => by simp at e; omega) _).cell 2 rfl⟩))
      clear hK K hHeld3
      try simp only [Act.put, List.setIfInBounds_toArray, List.set_cons_zero, List.set_cons_succ]
      refine wpAnyH_done (by kernel_rfl) ?_ _
      have HZ := Lib.hid (And.intro n1 (And.intro n2 (And.intro ho3 (And.intro hgr3 hat3)))); clear n1 n2 ho3 hgr3 hat3 mc m0 m1 m2 c0 x0 x1 x2 y0 y1 y2 yc
      go_upto_region 9 with fail
      refine wp_world (fun V => Hid (Mkr V base (Up F w w3) p kind mk (s ++ [newI st (j : Int)]) ∧ Touch F w V) ∧ V.cell? ⟨p, 2, none⟩ = some (.slice A3 (L + 1) c3) ∧ V.heap.size = w3.heap.size) ⟨⟨?_, ?_⟩, (HZ.out.1.set_ 2 _).cell 2 rfl, by simp⟩ ?_
      · refine ⟨A3, c3, _, ?_, (((HW.out.2.1.alloc (.cells #[.slice (some ⟨w.heap.size + 1, 0, none⟩) j j, .int .i64 st, .bool true] 187)).drew).push (F' := Up F w w3) (by decide) HZ.out.2.2.1 HZ.out.2.2.2.1 HZ.out.2.2.2.2 (fun g hg => .inl hg) (fun g hg => ?_) (((HW.out.2.2.2.1.base_le (by omega : base ≤ w.heap.size + 1)).alloc (.cells #[.slice (some ⟨w.heap.size + 1, 0, none⟩) j j, .int .i64 st, .bool true] 187)).drew) (fun g hg => ?_) (fun k hk => by rw [(List.mem_replicate.1 hk).2]; unfold I64; omega) HST.out.1).far_blk HZ.out.1 (by decide) (by decide) _ _, .inl H.out.2.2.1, h4, ?_⟩
        · have := HZ.out.1.set_ 2 (.slice A3 (L + 1) c3)
          rw [List.length_append, H.out.2.2.2.2.2]; exact this
        · rcases HZ.out.2.2.2.2 with e | e
          · exact .inl (HW.out.2.1.foot g (by rw [← e]; exact hg))
          · have hg0 := (HZ.out.2.2.1.lt g hg).2; rw [e] at hg; injection hg with hg; simp at hg; exact .inr ⟨by omega, hg0⟩
        · injection hg with hg; simp only at hg
          subst hg
          exact ⟨.inr ⟨by omega, by omega⟩, fun e => by have := H.out.2.2.2.2.1 _ e; omega⟩
        · show its (l ++ [_]) = _
          unfold its; rw [List.map_append]
          have := H.out.2.2.2.1
          unfold its at this
          rw [this]; simp [ItR.it, newI]
      · exact ((((Touch.ofBelow HW.out.2.2.2.2.1).alloc (.cells #[.slice (some ⟨w.heap.size + 1, 0, none⟩) j j, .int .i64 st, .bool true] 187)).drew.grown HZ.out.2.2.2.1 (fun g hg => HW.out.2.1.foot g hg)).setCell H.out.2.2.1 _)
      rintro V ⟨hV, v0, hVs⟩
      go_wp2_with fail
      go_ret2
      exact ⟨by first | rfl | (congr 3; omega), hV.out.1.mono (fun g hg => Up.more (w1 := w3) (by omega) hg), hV.out.2⟩

end Go.Proofs.Ytpkccpegdpodoaa

/- R.Model: one thing more; the numbers of those that stand so. -/
namespace Go.Proofs.Ytpkccpegdpodoaa
open Go.RowKit

attribute [local go_sem ↓] Go.wp_at_zero Go.wp_at_succ

set_option maxHeartbeats 1600000 in
set_option maxRecDepth 100000 in
theorem more_any (w : World) (base p : Nat) (F : Nat → Prop) (nu kind st : Int) (j : Nat) (mk : Bool) (s : List It) (h : Mdl w base F p nu kind mk s) (hF : ∀ g, F g → g < w.heap.size) (hj : j ≤ 10) (hs : s.length < 100) (hst : I64 st) :
    Calls Try.prog 129 #[.pointer (some ⟨p, 0, none⟩), .int .i64 j, .int .i64 st] w fun e w' => e = .returned (.int .i64 s.length) ∧ Mdl w' base (Up F w w') p nu kind mk (s ++ [⟨List.replicate j (-1), st, true⟩]) ∧ Touch F w w' := by
  obtain ⟨i0, hi, hz0, hz1, hz2⟩ := info_parts infoInt
  obtain ⟨k0, hk0, hy0, hy1, hy2⟩ := info_parts infoItem
  obtain ⟨A, c, l, h1, h2, h3, h4, h5⟩ := h
  have hl : s.length = l.length := by rw [← h5, its_length]
  obtain ⟨L, hL⟩ : ∃ L, l.length = L := ⟨_, rfl⟩
  rw [hL] at h1 hl
  rw [hl] at hs ⊢
  have hplt := h1.lt
  have hbase : base ≤ w.heap.size := by omega
  have HST := Lib.hid hst
  have H := Lib.hid (And.intro h1 (And.intro h2 (And.intro h3 (And.intro h5 (And.intro hF hL))))); clear h1 h2 h3 h5 hF hL hl hst
  go_enter Try.func129, Try.ntmps129
  go_wp2_with fail
  go_loopg [7, 9] j (fun gk lv iv wr => ∃ (k : Nat) (LA : Option Addr) (lc : Nat), k ≤ j ∧ gk = j - k ∧ iv = .int .i64 k ∧ lv = .slice LA k lc ∧ Hid (Own wr w.heap.size 3 LA lc (List.replicate k (-1)) ∧ (List.replicate k (-1 : Int)).length = k) ∧ Below w.heap.size w wr)
  case atStart => exact ⟨0, none, 0, Nat.zero_le _, rfl, rfl, rfl, ⟨Own.nil_, rfl⟩, Below.refl _ _⟩
  case round =>
    obtain ⟨k, LA, lc, hk, rfl, rfl, rfl, hkeep, hbl⟩ := hrel
    have hsz := hbl.size
    by_cases hlt : k < j
    · have hlt2 : (k : Int) < (j : Int) := by omega
      go_wp2_with (at_builtin; go_must (refine wpList_app (α := Int) (n := k) (m := 1) (B := wr.heap.size + 1) (r := [(-1 : Int)]) rfl (.tmp 11) (.tmp 12) _ rfl w.heap.size 3 i0 _ 8 Try.underlying47 hi hz0 hz1 hz2 rfl (by decide) int_one (by rfl) hkeep.out.2 (hkeep.out.1.alloc _) (by rfl) (At.built wr _ _ [(-1 : Int)] rfl (by intro z hz; simp at hz; subst hz; exact (by unfold I64; omega : I64 (-1)))) rfl (by omega) (by simp only [maxLen]; omega) (by simp; omega) ?_); intro A2 c2 w2 hown2 hgr2 hat2; have hb2 : Below w.heap.size w w2 := (hbl.alloc hsz _).grown hgr2 (by simp; omega) (fun g hg => (hkeep.out.1.lt g hg).1); rw [← List.replicate_succ'] at hown2; have HO2 := Lib.hid hown2; clear hown2 hgr2 hat2)
      go_roundg (j - (k + 1))
      case measure => omega
      case rel => exact ⟨k + 1, A2, c2, by omega, rfl, by go_num, rfl, ⟨HO2.out, by simp⟩, hb2⟩
    · obtain rfl : j = k := by omega
      have k1 := H.out.1.fresh hbl
      have k2 := H.out.2.1.fresh hbl
      have c0 := k1.cell 0 (v := .slice A L c) rfl
      have hp1 := k1.lt
      have hcs : (#[Value.slice LA j lc, .int .i64 st, .bool true] : Array Value).toList = flat [(⟨LA, lc, List.replicate j (-1), st, true⟩ : ItR)] := by simp [flat, Flat.cells]
      have HK := Lib.hid (And.intro k1 (And.intro k2 (And.intro hkeep.out.1 hcs))); clear k1 k2 hkeep hcs
      go_wp2_with (at_builtin; go_must (refine wpList_app (α := ItR) (n := L) (m := 1) (B := wr.heap.size + 1) (r := [⟨LA, lc, List.replicate j (-1), st, true⟩]) rfl (.tmp 19) (.tmp 23) _ rfl base 104 k0 _ 40 Try.underlying93 hk0 hy0 hy1 hy2 rfl (by decide) itr_one (by rfl) H.out.2.2.2.2.2 (HK.out.2.1.row.alloc _) (by rfl) (At.built wr #[Value.slice LA j lc, .int .i64 st, .bool true] _ [(⟨LA, lc, List.replicate j (-1), st, true⟩ : ItR)] HK.out.2.2.2 (fun _ _ => trivial)) rfl (by omega) (by simp only [maxLen]; omega) (by simp; omega) ?_); intro A3 c3 w3 ho3 hgr3 hat3; have hs3 := hgr3.size; simp only [World.size_alloc] at hs3; have n1 := (HK.out.1.alloc (.cells #[Value.slice LA j lc, .int .i64 st, .bool true] 104)).grown hgr3 (fun e => own_ne_ty (HK.out.2.1.row.alloc (.cells #[Value.slice LA j lc, .int .i64 st, .bool true] 104)) (HK.out.1.alloc (.cells #[Value.slice LA j lc, .int .i64 st, .bool true] 104)) (by decide) e); have c3' := n1.cell 0 (v := .slice A L c) rfl; have z3 := n1.frozen 0; have HZ := Lib.hid (And.intro n1 (And.intro ho3 (And.intro hgr3 hat3))); clear n1 ho3 hgr3 hat3 c0)
      go_ret
      have hT : Touch F w ((w3.setCell ⟨p, 0, none⟩ (.slice A3 (L + 1) c3))) := (((Touch.ofBelow hbl).alloc (.cells #[Value.slice LA j lc, .int .i64 st, .bool true] 104)).grown HZ.out.2.2.1 (fun g hg => H.out.2.1.foot g hg)).setCell H.out.2.2.1 _
      refine ⟨by first | rfl | (congr 2; omega), ⟨A3, c3, _, ?_, ((HK.out.2.1.alloc (.cells #[Value.slice LA j lc, .int .i64 st, .bool true] 104)).push (F' := Up F w (w3.setCell ⟨p, 0, none⟩ (.slice A3 (L + 1) c3))) (by decide) HZ.out.2.1 HZ.out.2.2.1 HZ.out.2.2.2 (fun g hg => .inl hg) (fun g hg => ?_) ((HK.out.2.2.1.base_le hbase).alloc _) (fun g hg => ?_) (fun k hk => by rw [(List.mem_replicate.1 hk).2]; unfold I64; omega) HST.out).far_blk HZ.out.1 (by decide) (by decide) _ _, .inl H.out.2.2.1, h4, ?_⟩, hT⟩
      · have := HZ.out.1.set_ 0 (.slice A3 (L + 1) c3)
        rw [List.length_append, H.out.2.2.2.2.2]; exact this
      · rcases HZ.out.2.2.2 with e | e
        · exact .inl (H.out.2.1.foot g (by rw [← e]; exact hg))
        · have hg0 := (HZ.out.2.1.lt g hg).2
          rw [e] at hg; injection hg with hg; simp at hg
          exact .inr ⟨by omega, by simp; omega⟩
      · have hg0 := HK.out.2.2.1.lt g hg
        exact ⟨.inr ⟨by omega, by simp; omega⟩, fun e => by have := H.out.2.2.2.2.1 _ e; omega⟩
      · show its (l ++ [_]) = _
        unfold its; rw [List.map_append]
        have := H.out.2.2.2.1
        unfold its at this
        rw [this]; simp [ItR.it]

end Go.Proofs.Ytpkccpegdpodoaa

/- R.Model: those that stand so. -/
namespace Go.Proofs.Ytpkccpegdpodoaa
open Go.RowKit

attribute [local go_sem ↓] Go.wp_at_zero Go.wp_at_succ

theorem are_take (s : List It) (v : Int) (k : Nat) (x : It) (h : s[k]? = some x) : are (s.take (k + 1)) v = are (s.take k) v ++ if x.st = v then [(k : Int)] else [] := by
  unfold are
  rw [List.map_take, List.map_take, rising_snoc (s.map fun x => decide (x.st = v)) k (decide (x.st = v)) (by rw [List.getElem?_map, h]; rfl)]
  by_cases e : x.st = v <;> simp [e]
theorem are_len (s : List It) (v : Int) : (are s v).length ≤ s.length := by
  unfold are; have := rising_length (s.map fun x => decide (x.st = v)); rw [List.length_map] at this; exact this
theorem are_mem {s : List It} {v x : Int} (h : x ∈ are s v) : ∃ n : Nat, x = (n : Int) ∧ stAt s n = some v := by
  unfold are at h
  obtain ⟨n, rfl, hn⟩ := (mem_rising _ _).1 h
  rw [List.getElem?_map] at hn
  cases hs : s[n]? with
  | none => rw [hs] at hn; cases hn
  | some y => rw [hs] at hn; injection hn with hn; exact ⟨n, rfl, by rw [stAt_get hs, of_decide_eq_true hn]⟩
theorem risingFrom_head (p : It → Bool) : ∀ (s : List It) (i : Nat), (risingFrom i (s.map p))[0]? = if s.findIdx p < s.length then some ((i + s.findIdx p : Nat) : Int) else none
  | [], i => by simp [risingFrom]
  | x :: s, i => by
    have ih := risingFrom_head p s (i + 1)
    rw [List.map_cons, risingFrom, List.findIdx_cons]
    cases hp : p x with
    | true => simp
    | false =>
      simp only [Bool.false_eq_true, if_false, cond_false, List.length_cons, ih]
      by_cases hl : s.findIdx p < s.length
      · rw [if_pos hl, if_pos (by omega)]; congr 2; omega
      · rw [if_neg hl, if_neg (by omega)]
theorem are_head (s : List It) : (are s 1)[0]? = if greyAt s < s.length then some (greyAt s : Int) else none := by
  unfold are rising
  rw [risingFrom_head]
  simp [greyAt]

set_option maxHeartbeats 800000 in
set_option maxRecDepth 100000 in
theorem are_any (w : World) (base p : Nat) (F : Nat → Prop) (nu kind v : Int) (mk : Bool) (s : List It) (h : Mdl w base F p nu kind mk s) (hs : s.length ≤ 100) :
    Calls Try.prog 90 #[.pointer (some ⟨p, 0, none⟩), .int .i64 v] w fun e w' => ∃ A c, e = .returned (.slice A (are s v).length c) ∧ Own w' w.heap.size 3 A c (are s v) ∧ Below w.heap.size w w' := by
  obtain ⟨i0, hi, hz0, hz1, hz2⟩ := info_parts infoInt
  obtain ⟨A, c, l, h1, h2, h3, h4, h5⟩ := h
  have hl : s.length = l.length := by rw [← h5, its_length]
  obtain ⟨N, hN⟩ : ∃ N, l.length = N := ⟨_, rfl⟩
  rw [hN] at h1 hl
  rw [hl] at hs
  have c2 := h1.cell 0 (v := .slice A N c) rfl
  have H := Lib.hid (And.intro h2 (And.intro h5 (And.intro hl hN))); clear h1 h2 h5 hl hN
  go_enter Try.func90, Try.ntmps90
  go_wp2_with fail
  clear c2
  go_loopg [5, 13] N (fun gk ov iv wr => ∃ (k m : Nat) (A1 : Option Addr) (c1 : Nat), k ≤ N ∧ gk = N - k ∧ iv = .int .i64 k ∧ ov = .slice A1 m c1 ∧ m ≤ k ∧ Hid (Own wr w.heap.size 3 A1 c1 (are (s.take k) v) ∧ (are (s.take k) v).length = m) ∧ Below w.heap.size w wr)
  case atStart => exact ⟨0, 0, none, 0, Nat.zero_le _, rfl, rfl, rfl, Nat.le_refl _, ⟨Own.nil_, rfl⟩, Below.refl _ _⟩
  case round =>
    obtain ⟨k, m, A1, c1, hk, rfl, rfl, rfl, hm, hkeep, hbl⟩ := hrel
    have hsz := hbl.size
    by_cases hlt : k < N
    · obtain ⟨x, hx⟩ : ∃ x, l[k]? = some x := ⟨_, List.getElem?_eq_getElem (by have := H.out.2.2.2; omega)⟩
      obtain ⟨g, rfl, hg1, hg2, q0, q1, q2⟩ := (H.out.1.fresh hbl).cells hx
      have b0 : (0 : Int) ≤ (k : Int) := by omega
      have b1 : (k : Int) < (N : Int) := by omega
      have hsx : s[k]? = some x.it := by rw [← H.out.2.1]; exact its_get hx
      have hsn := are_take s v k x.it hsx
      obtain ⟨y, hy⟩ : ∃ y, x.st = y := ⟨_, rfl⟩
      have hy' : x.it.st = y := hy
      rw [hy] at q1
      rw [hy'] at hsn
      by_cases he : y = v
      · subst he
        rw [if_pos rfl] at hsn
        have HS := Lib.hid (And.intro hsn hkeep.out); clear hsn hx hsx hkeep hy hy'
        go_wp2_with (at_builtin; go_must (refine wpList_app (α := Int) (n := m) (m := 1) (B := wr.heap.size + 1 + 1) (r := [(k : Int)]) rfl (.tmp 22) (.tmp 24) _ rfl w.heap.size 3 i0 _ 8 Try.underlying47 hi hz0 hz1 hz2 rfl (by decide) int_one (by rfl) HS.out.2.2 ((HS.out.2.1.alloc _).alloc _) (by rfl) ?_ rfl (by omega) (by simp only [maxLen]; omega) (by simp; omega) ?_))
        · have := At.built (wr.alloc (.cells #[.slice x.A x.has.length x.c, .int .i64 y, .bool x.held] 104)) #[.int .i64 (k : Int)] 3 [(k : Int)] rfl (by intro z hz; simp at hz; subst hz; exact (by unfold I64; omega : I64 (k : Int)))
          simpa using this
        intro A2 c2 w2 hown2 hgr2 hat2
        have hbl2 : Below w.heap.size w w2 := ((hbl.alloc hsz _).alloc (by simp; omega) _).grown hgr2 (by simp; omega) (fun g hg => (HS.out.2.1.lt g hg).1)
        have HO2 := Lib.hid hown2; clear hown2 hgr2 hat2
        go_wp2_with fail
        go_roundg (N - (k + 1))
        case measure => omega
        case rel => exact ⟨k + 1, m + 1, A2, c2, by omega, rfl, by go_num, rfl, by omega, ⟨by rw [HS.out.1]; exact HO2.out, by rw [HS.out.1, List.length_append, HS.out.2.2]; rfl⟩, hbl2⟩
      · have d0 : (y == v) = false := by simpa using he
        rw [if_neg he, List.append_nil] at hsn
        have HS := Lib.hid (And.intro hsn hkeep.out); clear hsn hx hsx hkeep hy hy' he
        go_wp2_with fail
        go_roundg (N - (k + 1))
        case measure => omega
        case rel => exact ⟨k + 1, m, A1, c1, by omega, rfl, by go_num, rfl, by omega, ⟨by rw [HS.out.1]; exact HS.out.2.1.alloc _, by rw [HS.out.1]; exact HS.out.2.2⟩, hbl.alloc hsz _⟩
    · obtain rfl : N = k := by omega
      have hk2 := hkeep.out
      rw [List.take_of_length_le (by have := H.out.2.2.1; omega)] at hk2
      have HK := Lib.hid hk2; clear hk2 hkeep
      go_wp2_with fail
      go_ret
      exact ⟨A1, c1, by rw [HK.out.2]; rfl, HK.out.1, hbl⟩

end Go.Proofs.Ytpkccpegdpodoaa

/- R.Model: blacken. -/
namespace Go.Proofs.Ytpkccpegdpodoaa
open Go.RowKit

attribute [local go_sem ↓] Go.wp_at_zero Go.wp_at_succ

set_option maxHeartbeats 1600000 in
set_option maxRecDepth 100000 in
theorem blacken_any (w : World) (base p : Nat) (F : Nat → Prop) (nu kind : Int) (s : List It) (h : Mdl w base F p nu kind true s) (hi : MInv kind true s) :
    Calls Try.prog 133 #[.pointer (some ⟨p, 0, none⟩)] w fun e w' => e = .returned (.bool (decide (greyAt s < s.length))) ∧ Mdl w' base F p nu kind true (if greyAt s < s.length then stepI s else s) ∧ Touch F w w' := by
  have hah := are_head s
  have hal := are_len s 1
  have hs := hi.small
  have HA := Lib.hid (are_any w base p F nu kind 1 true s h hs)
  obtain ⟨q, hq⟩ : ∃ q, are s 1 = q := ⟨_, rfl⟩
  rw [hq] at hah hal HA
  have HQ := Lib.hid hq; clear hq
  have HI := Lib.hid hi; clear hi
  have HM := Lib.hid h; clear h
  by_cases hg : greyAt s < s.length
  · rw [if_pos hg] at hah
    simp only [if_pos hg, decide_eq_true hg]
    obtain ⟨t, ht⟩ : ∃ t, greyAt s = t := ⟨_, rfl⟩
    rw [ht] at hah hg
    have hq1 : 0 < q.length := by
      rcases Nat.eq_zero_or_pos q.length with h0 | h0
      · rw [List.eq_nil_of_length_eq_zero h0] at hah; cases hah
      · exact h0
    have hq0 : ¬ q.length = 0 := by omega
    have HG := Lib.hid (And.intro hah (And.intro ht hg)); clear hah ht hg
    go_enter Try.func133, Try.ntmps133
    go_wp2_with fail
    refine HA.out.mono ?_
    rintro e w1 ⟨QA, qc, rfl, ho1, hb1⟩
    have hs1 := hb1.size
    obtain ⟨gq, rfl, hgq1, hgq2⟩ := ho1.some_ hq1
    have r0 := ho1.cell_int (i := 0) HG.out.1
    have hM1 := HM.out.fresh hb1
    obtain ⟨A, c, l, m1, m2, m3, m4, m5⟩ := hM1
    have hll : l.length = s.length := by rw [← m5, its_length]
    obtain ⟨L, hL⟩ : ∃ L, l.length = L := ⟨_, rfl⟩
    rw [hL] at m1 hll
    obtain ⟨x, hx⟩ : ∃ x, l[t]? = some x := ⟨_, List.getElem?_eq_getElem (by have := HG.out.2.2; omega)⟩
    obtain ⟨g, rfl, hg1, hg2, q0, q1, q2⟩ := m2.cells hx
    have p0 := m1.cell 0 (v := .slice (some ⟨g, 0, none⟩) L c) rfl
    have zz := m2.row.frozen (g := g) rfl (t * 3 + 1)
    have hplt := m1.lt
    have hst := m2.setSt hx (by decide) 2 (by unfold I64; omega)
    have hblk := m1.far (p := ⟨g, t * 3 + 1, none⟩) (fun e => own_ne_ty m2.row m1 (by decide) (by rw [e]; rfl)) (.int .i64 2)
    have hits := its_set l t x { x with st := 2 } (It.setst 2) hx rfl
    rw [m5] at hits
    obtain ⟨hxo, hxF, hxi, hxs⟩ := m2.sub t x hx
    have hgF := m2.foot g rfl
    have hsx : s[t]? = some x.it := by rw [← m5]; exact its_get hx
    obtain ⟨XA, xc, xh, xs, xb⟩ := x
    simp only at q0 q1 q2 hxo hxi hxs hits hst hsx hxF
    have hxr : ∀ z ∈ xh, z = -1 ∨ ∃ n : Nat, z = (n : Int) ∧ n < s.length := fun z hz => (HI.out.refs _ (List.mem_of_getElem? hsx) z hz).imp id (fun ⟨n, e, e2, _⟩ => ⟨n, e, e2⟩)
    have hx10 : xh.length ≤ 10 := HI.out.long _ (List.mem_of_getElem? hsx)
    have hstep : stepI s = shadeL true xh (s.modify t (It.setst 2)) := by unfold stepI; rw [HG.out.2.1, hsx]; simp [ItR.it]
    have hoW := (IntKeep.set m2.row (by decide) (t * 3 + 1) (.int .i64 2))
    have hxo2 := hxo.intKeep hoW
    have hgqF : gq ≠ g := fun e => own_own_ty m2.row ho1 (by decide) g rfl (by rw [e]; rfl)
    have hr2 : (w1.setCell ⟨g, t * 3 + 1, none⟩ (.int .i64 2)).cell? ⟨gq, 0, none⟩ = some (.int .i64 (t : Int)) := by
      rw [World.cell?_setCell_other _ _ _ _ (fun e => by injection e with e1 e2; exact hgqF e1.symm)]; exact r0
    have hlen1 : (l.set t { A := XA, c := xc, has := xh, st := 2, held := xb }).length = L := by rw [List.length_set]; exact hL
    obtain ⟨xn, hxn⟩ : ∃ n, xh.length = n := ⟨_, rfl⟩
    rw [hxn] at q0 hx10
    have hc0 := hst.cells (i := t) (x := { A := XA, c := xc, has := xh, st := 2, held := xb }) (by rw [List.getElem?_set_self (List.getElem?_eq_some_iff.1 hx).1])
    obtain ⟨g', hgg, -, -, u0, -, -⟩ := hc0
    injection hgg with hgg; injection hgg with hgg; subst hgg
    simp only [hxn] at u0
    have t0 : (0 : Int) ≤ (t : Int) := by omega
    have t1 : (t : Int) < (L : Int) := by have := HG.out.2.2; omega
    have ql0 : (0 : Int) < (q.length : Int) := by omega
    have HW := Lib.hid (And.intro hst (And.intro hblk (And.intro hits (And.intro hxo2 (And.intro hxr (And.intro hstep (And.intro hlen1 (And.intro hxn (And.intro hgF (And.intro m3 hb1))))))))))
    have up0 := hblk.cell 0 (v := .slice (some ⟨g, 0, none⟩) L c) rfl
    have hLs := Nat.le_of_eq hll
    clear hll m1 m2 m3 m5 hst hblk hits hxo hxo2 hxr hstep hx hsx hlen1 hxn hxi hxF hoW ho1 hL q2
    go_wp2_with fail
    go_still_tail 9, (by kernel_rfl)
    change wpList _ _ _ _ _ (World.drew _)
    go_wp2_with fail
    refine wp_world (fun W => Blk W p 95 #[.slice (some ⟨g, 0, none⟩) L c, .int .i64 nu, .int .i64 kind, .bool true] ∧ Its W base F 104 (some ⟨g, 0, none⟩) c (l.set t { A := XA, c := xc, has := xh, st := 2, held := xb }) ∧ Own W base 3 XA xc xh ∧ Touch F w W ∧ W.cell? ⟨gq, 0, none⟩ = some (.int .i64 (t : Int)) ∧ W.cell? ⟨g, t * 3, none⟩ = some (.slice XA xn xc)) ⟨HW.out.2.1.drew, HW.out.1.drew, HW.out.2.2.2.1.drew, ((Touch.ofBelow HW.out.2.2.2.2.2.2.2.2.2.2).setCell HW.out.2.2.2.2.2.2.2.2.1 _).drew, hr2, u0⟩ ?_
    rintro W ⟨v1, v2, v3, v4, v5, v6⟩
    have v0 := v1.cell 0 (v := .slice (some ⟨g, 0, none⟩) L c) rfl
    have hMd : Mdl W base F p nu kind true (s.modify t (It.setst 2)) := ⟨_, c, _, by rw [HW.out.2.2.2.2.2.2.1]; exact v1, v2, HW.out.2.2.2.2.2.2.2.2.2.1, m4, HW.out.2.2.1⟩
    have HV := Lib.hid (And.intro hMd (And.intro v3 v4))
    clear v1 v2 v3 v4 hMd up0 hr2 u0 q0 q1 r0 zz p0
    go_quiet (fail)
    go_wp2_with fail
    go_loopg [31] xn (fun gk iv wr => ∃ k : Nat, k ≤ xn ∧ gk = xn - k ∧ iv = .int .i64 k ∧ Hid (Mdl wr base F p nu kind true (shadeL true (xh.take k) (s.modify t (It.setst 2))) ∧ Own wr base 3 XA xc xh) ∧ Touch F w wr)
    case atStart => exact ⟨0, Nat.zero_le _, rfl, rfl, ⟨HV.out.1.drewN _, HV.out.2.1.drewN _⟩, HV.out.2.2.drewN _⟩
    case round =>
      obtain ⟨k, hk, rfl, rfl, hkeep, hT⟩ := hrel
      by_cases hlt : k < xn
      · obtain ⟨z, hz⟩ : ∃ z, xh[k]? = some z := ⟨_, List.getElem?_eq_getElem (by have := HW.out.2.2.2.2.2.2.2.1; omega)⟩
        obtain ⟨gx, rfl, hx1, hx2⟩ := hkeep.out.2.some_ (by have := HW.out.2.2.2.2.2.2.2.1; omega)
        have z0 := hkeep.out.2.cell_int hz
        have b0 : (0 : Int) ≤ (k : Int) := by omega
        have b1 : (k : Int) < (xn : Int) := by omega
        have hzr := HW.out.2.2.2.2.1 z (List.mem_of_getElem? hz)
        have hsn := shadeL_snoc true xh k z (s.modify t (It.setst 2)) hz
        have hll : (shadeL true (xh.take k) (s.modify t (It.setst 2))).length = s.length := by rw [shadeL_length]; simp
        have hsh := rshade_any wr base p F nu kind z true (shadeL true (xh.take k) (s.modify t (It.setst 2))) hkeep.out.1 (by rw [hll]; exact hzr) (by rw [hll]; omega)
        rw [← hsn] at hsh
        have HS := Lib.hid hsh; clear hsh hsn hz hzr hll
        go_wp2_with fail
        refine HS.out.mono ?_
        rintro e w5 ⟨rfl, h5a, h5b, h5c, h5d⟩
        have HF := Lib.hid (And.intro h5a (And.intro (hkeep.out.2.intKeep h5c) (hT.trans h5b))); clear h5a h5b h5c h5d hkeep z0
        go_wp2_with fail
        go_roundg (xn - (k + 1))
        case measure => omega
        case rel => exact ⟨k + 1, by omega, rfl, by go_num, ⟨HF.out.1, HF.out.2.1⟩, HF.out.2.2⟩
      · have hfin := hkeep.out.1
        rw [List.take_of_length_le (by have := HW.out.2.2.2.2.2.2.2.1; omega), ← HW.out.2.2.2.2.2.1] at hfin
        have HF := Lib.hid hfin; clear hfin hkeep
        go_wp2_with fail
        go_ret
        exact ⟨rfl, HF.out, hT⟩
  · rw [if_neg hg] at hah
    simp only [if_neg hg, decide_eq_false hg]
    have hq0 : q = [] := by
      rcases q with _ | ⟨y, q⟩
      · rfl
      · simp at hah
    subst hq0
    clear hah hg
    go_enter Try.func133, Try.ntmps133
    go_wp2_with fail
    refine HA.out.mono ?_
    rintro e w1 ⟨QA, qc, rfl, ho1, hb1⟩
    have HZ := Lib.hid (And.intro (HM.out.fresh hb1) hb1); clear ho1 hb1
    go_wp2_with fail
    go_ret
    exact ⟨rfl, HZ.out.1, Touch.ofBelow HZ.out.2⟩

end Go.Proofs.Ytpkccpegdpodoaa

/- mark: step. -/
namespace Go.Proofs.Ytpkccpegdpodoaa
open Go.RowKit

attribute [local go_sem ↓] Go.wp_at_zero Go.wp_at_succ

theorem egStep1 : ∀ args w, (callFunc 197 args).run Try.prog w = .ok (.enter 197 args) w := fun _ _ => by kernel_rfl
theorem step1_any (a : Value) (x : Int) (b : Bool) (w : World) : Calls Try.prog 197 #[.agg #[a, .int .i64 x, .bool b]] w fun e w' => e = .returned (.bool (decide (x = 1))) ∧ Below w.heap.size w w' := by
  by_cases h : x = 1
  · subst h
    go_enter Try.func197, Try.ntmps197
    go_wp2
    go_ret
    exact ⟨rfl, (Below.refl _ _).alloc (Nat.le_refl _) _⟩
  · have d0 : (x == 1) = false := by simpa using h
    have HH := Lib.hid h; clear h
    go_enter Try.func197, Try.ntmps197
    go_wp2
    go_ret
    exact ⟨by rw [decide_eq_false HH.out]; rfl, (Below.refl _ _).alloc (Nat.le_refl _) _⟩

theorem any_snocJ {α : Type} (p : α → Bool) (l : List α) (k : Nat) (x : α) (h : l[k]? = some x) : (l.take (k + 1)).any p = ((l.take k).any p || p x) := by
  rw [List.take_add_one, h]; simp [List.any_append]

def gIdx (s : List It) : Int := if greyAt s < s.length then (greyAt s : Int) else -1

set_option maxHeartbeats 800000 in
set_option maxRecDepth 100000 in
theorem indexThing_any (w : World) (base N c : Nat) (F : Nat → Prop) (A : Option Addr) (l : List ItR) (s : List It) (h : Its w base F 187 A c l) (hl : its l = s) (hn : l.length = N) (hs : N ≤ 100) :
    Calls Try.prog 196 #[.slice A N c, .func (.func 197) #[] #[]] w fun e w' => e = .returned (.int .i64 (gIdx s)) ∧ Below w.heap.size w w' := by
  have H := Lib.hid (And.intro h (And.intro hl hn)); clear h hl hn
  have HE := Lib.hid egStep1
  have eg := egStep1
  go_enter Try.func196, Try.ntmps196
  go_wp2_with fail
  go_loopg [8] N (fun gk i wr => ∃ k : Nat, k ≤ N ∧ gk = N - k ∧ i = .int .i64 k ∧ Hid ((s.take k).any (fun x => decide (x.st = 1)) = false) ∧ Below w.heap.size w wr)
  case atStart => exact ⟨0, Nat.zero_le _, rfl, rfl, by simp [Hid], Below.refl _ _⟩
  case round =>
    obtain ⟨k, hk, rfl, rfl, hno, hbl⟩ := hrel
    have hsz := hbl.size
    by_cases hlt : k < N
    · obtain ⟨x, hx⟩ : ∃ x, l[k]? = some x := ⟨_, List.getElem?_eq_getElem (by have := H.out.2.2; omega)⟩
      obtain ⟨g, rfl, hg1, hg2, q0, q1, q2⟩ := (H.out.1.fresh hbl).cells hx
      have hsx : s[k]? = some x.it := by rw [← H.out.2.1]; exact its_get hx
      have hk0 : (0 : Int) ≤ (k : Int) := by omega
      have hk1 : (k : Int) < (N : Int) := by omega
      obtain ⟨y, hy⟩ : ∃ y, x.st = y := ⟨_, rfl⟩
      rw [hy] at q1
      have hcall := step1_any (.slice x.A x.has.length x.c) y x.held
      by_cases he : y = 1
      · have hfin : greyAt s = k ∧ k < s.length := by
          have hh := idxI_hit (fun x : It => decide (x.st = 1)) s k x.it hsx (by show decide (x.st = 1) = true; rw [hy]; simpa using he) hno.out
          have hany : s.any (fun x : It => decide (x.st = 1)) = true := List.any_eq_true.2 ⟨_, List.mem_of_getElem? hsx, by show decide (x.st = 1) = true; rw [hy]; simpa using he⟩
          unfold idxI at hh
          rw [if_pos hany] at hh
          have hgr : s.findIdx (fun x : It => decide (x.st = 1)) = greyAt s := rfl
          exact ⟨by omega, (List.getElem?_eq_some_iff.1 hsx).1⟩
        have HC := Lib.hid (And.intro hcall hfin); clear hcall hfin hx hsx hy
        subst he
        go_wp2_with (go_at_fn 197; refine Calls.mono (HC.out.1 _) ?_; rintro e w' ⟨rfl, hb'⟩; rw [decide_eq_true rfl])
        go_ret
        exact ⟨by unfold gIdx; rw [HC.out.2.1, if_pos HC.out.2.2]; rfl, hbl.trans (hb'.mono hsz)⟩
      · have hsn := any_snocJ (fun x : It => decide (x.st = 1)) s k x.it hsx
        have hp : decide (x.it.st = 1) = false := by show decide (x.st = 1) = false; rw [hy]; simpa using he
        rw [hno.out, hp] at hsn
        have HC := Lib.hid (And.intro hcall (And.intro hsn (decide_eq_false he))); clear hcall hsn hx hsx hy hp he
        go_wp2_with (go_at_fn 197; refine Calls.mono (HC.out.1 _) ?_; rintro e w' ⟨rfl, hb'⟩; rw [HC.out.2.2])
        go_roundg (N - (k + 1))
        case measure => omega
        case rel => exact ⟨k + 1, by omega, rfl, by go_num, HC.out.2.1, hbl.trans (hb'.mono hsz)⟩
    · have hfin : ¬ greyAt s < s.length := by
        have h1 := hno.out
        have : s.length = l.length := by rw [← H.out.2.1, its_length]
        rw [List.take_of_length_le (by have := H.out.2.2; omega)] at h1
        intro hg
        have h2 := List.any_eq_false.1 h1 (s[greyAt s]) (List.getElem_mem hg)
        have h3 := List.findIdx_getElem (p := fun x : It => decide (x.st = 1)) (w := hg)
        exact h2 h3
      have HN := Lib.hid hfin; clear hfin hno
      go_wp2_with fail
      go_ret
      exact ⟨by unfold gIdx; rw [if_neg HN.out]; rfl, hbl⟩

set_option maxHeartbeats 1600000 in
set_option maxRecDepth 100000 in
theorem step_any (w : World) (base p : Nat) (F : Nat → Prop) (kind : Int) (s : List It) (h : Mkr w base F p kind true s) (hi : MInv kind true s) :
    Calls Try.prog 179 #[.pointer (some ⟨p, 0, none⟩)] w fun e w' => e = .returned (.bool (decide (greyAt s < s.length))) ∧ Mkr w' base F p kind true (if greyAt s < s.length then stepI s else s) ∧ Touch F w w' := by
  have hs := hi.small
  have HI := Lib.hid hi; clear hi
  have HM := Lib.hid h
  obtain ⟨A, c, l, h1, h2, h3, h4, h5⟩ := h
  obtain ⟨L, hL⟩ : ∃ L, l.length = L := ⟨_, rfl⟩
  have hll : s.length = l.length := by rw [← h5, its_length]
  rw [hL] at h1 hll
  have hix := Lib.hid (indexThing_any w base L c F A l s h2 h5 hL (by omega))
  have c2 := h1.cell 2 (v := .slice A L c) rfl
  have H := Lib.hid (And.intro h1 (And.intro h2 (And.intro h3 (And.intro h5 (And.intro hL hll))))); clear h1 h2 h3 h5 hL hll
  by_cases hg : greyAt s < s.length
  · have hgi : gIdx s = (greyAt s : Int) := if_pos hg
    rw [hgi] at hix
    simp only [if_pos hg, decide_eq_true hg]
    obtain ⟨t, ht⟩ : ∃ t, greyAt s = t := ⟨_, rfl⟩
    rw [ht] at hix hg
    have HG := Lib.hid (And.intro ht hg); clear ht hg hgi
    have ht0 : ¬ (t : Int) < 0 := by omega
    go_enter Try.func179, Try.ntmps179
    go_wp2_with fail
    refine hix.out.mono ?_
    rintro e w1 ⟨rfl, hb1⟩
    have hs1 := hb1.size
    clear c2
    have m1 := H.out.1.fresh hb1
    have m2 := H.out.2.1.fresh hb1
    obtain ⟨x, hx⟩ : ∃ x, l[t]? = some x := ⟨_, List.getElem?_eq_getElem (by have := HG.out.2; have := H.out.2.2.2.2.1; have := H.out.2.2.2.2.2; omega)⟩
    obtain ⟨g, rfl, hg1, hg2, q0, q1, q2⟩ := m2.cells hx
    have p0 := m1.cell 2 (v := .slice (some ⟨g, 0, none⟩) L c) rfl
    have zz := m2.row.frozen (g := g) rfl (t * 3 + 1)
    have hplt := m1.lt
    have hst := m2.setSt hx (by decide) 2 (by unfold I64; omega)
    have hblk := m1.far (p := ⟨g, t * 3 + 1, none⟩) (fun e => own_ne_ty m2.row m1 (by decide) (by rw [e]; rfl)) (.int .i64 2)
    have hits := its_set l t x { x with st := 2 } (It.setst 2) hx rfl
    rw [H.out.2.2.2.1] at hits
    obtain ⟨hxo, hxF, hxi, hxs⟩ := m2.sub t x hx
    have hgF := m2.foot g rfl
    have hsx : s[t]? = some x.it := by rw [← H.out.2.2.2.1]; exact its_get hx
    obtain ⟨XA, xc, xh, xs, xb⟩ := x
    simp only at q0 q1 q2 hxo hxi hxs hits hst hsx hxF
    have hxr : ∀ z ∈ xh, z = -1 ∨ ∃ n : Nat, z = (n : Int) ∧ n < s.length := fun z hz => (HI.out.refs _ (List.mem_of_getElem? hsx) z hz).imp id (fun ⟨n, e, e2, _⟩ => ⟨n, e, e2⟩)
    have hx10 : xh.length ≤ 10 := HI.out.long _ (List.mem_of_getElem? hsx)
    have hstep : stepI s = shadeL true xh (s.modify t (It.setst 2)) := by unfold stepI; rw [HG.out.1, hsx]; simp [ItR.it]
    have hxo2 := hxo.intKeep (IntKeep.set m2.row (by decide) (t * 3 + 1) (.int .i64 2))
    have hlen1 : (l.set t { A := XA, c := xc, has := xh, st := 2, held := xb }).length = L := by rw [List.length_set]; exact H.out.2.2.2.2.1
    obtain ⟨xn, hxn⟩ : ∃ n, xh.length = n := ⟨_, rfl⟩
    rw [hxn] at q0 hx10
    have hc0 := hst.cells (i := t) (x := { A := XA, c := xc, has := xh, st := 2, held := xb }) (by rw [List.getElem?_set_self (List.getElem?_eq_some_iff.1 hx).1])
    obtain ⟨g', hgg, -, -, u0, -, -⟩ := hc0
    injection hgg with hgg; injection hgg with hgg; subst hgg
    simp only [hxn] at u0
    have t0 : (0 : Int) ≤ (t : Int) := by omega
    have t1 : (t : Int) < (L : Int) := by have := HG.out.2; have := H.out.2.2.2.2.2; omega
    have HW := Lib.hid (And.intro hst (And.intro hblk (And.intro hits (And.intro hxo2 (And.intro hxr (And.intro hstep (And.intro hlen1 (And.intro hxn (And.intro hgF (And.intro H.out.2.2.1 hb1))))))))))
    have up0 := hblk.cell 2 (v := .slice (some ⟨g, 0, none⟩) L c) rfl
    clear m1 m2 hst hblk hits hxo hxo2 hxr hstep hx hsx hlen1 hxn hxi hxF q2
    go_wp2_with fail
    refine wp_world (fun W => Blk W p 182 #[.int .i64 kind, .bool true, .slice (some ⟨g, 0, none⟩) L c] ∧ Its W base F 187 (some ⟨g, 0, none⟩) c (l.set t { A := XA, c := xc, has := xh, st := 2, held := xb }) ∧ Own W base 3 XA xc xh ∧ Touch F w W) ⟨HW.out.2.1, HW.out.1, HW.out.2.2.2.1, ((Touch.ofBelow HW.out.2.2.2.2.2.2.2.2.2.2).setCell HW.out.2.2.2.2.2.2.2.2.1 _)⟩ ?_
    rintro W ⟨v1, v2, v3, v4⟩
    have hMd : Mkr W base F p kind true (s.modify t (It.setst 2)) := ⟨_, c, _, by rw [HW.out.2.2.2.2.2.2.1]; exact v1, v2, HW.out.2.2.2.2.2.2.2.2.2.1, h4, HW.out.2.2.1⟩
    have HV := Lib.hid (And.intro hMd (And.intro v3 v4))
    clear v1 v2 v3 v4 hMd up0 u0 q0 q1 zz p0
    go_loopg [29] xn (fun gk iv wr => ∃ k : Nat, k ≤ xn ∧ gk = xn - k ∧ iv = .int .i64 k ∧ Hid (Mkr wr base F p kind true (shadeL true (xh.take k) (s.modify t (It.setst 2))) ∧ Own wr base 3 XA xc xh) ∧ Touch F w wr)
    case atStart => exact ⟨0, Nat.zero_le _, rfl, rfl, ⟨HV.out.1, HV.out.2.1⟩, HV.out.2.2⟩
    case round =>
      obtain ⟨k, hk, rfl, rfl, hkeep, hT⟩ := hrel
      by_cases hlt : k < xn
      · obtain ⟨z, hz⟩ : ∃ z, xh[k]? = some z := ⟨_, List.getElem?_eq_getElem (by have := HW.out.2.2.2.2.2.2.2.1; omega)⟩
        obtain ⟨gx, rfl, hx1, hx2⟩ := hkeep.out.2.some_ (by have := HW.out.2.2.2.2.2.2.2.1; omega)
        have z0 := hkeep.out.2.cell_int hz
        have b0 : (0 : Int) ≤ (k : Int) := by omega
        have b1 : (k : Int) < (xn : Int) := by omega
        have hzr := HW.out.2.2.2.2.1 z (List.mem_of_getElem? hz)
        have hsn := shadeL_snoc true xh k z (s.modify t (It.setst 2)) hz
        have hll : (shadeL true (xh.take k) (s.modify t (It.setst 2))).length = s.length := by rw [shadeL_length]; simp
        have hsh := mshade_any wr base p F kind z true (shadeL true (xh.take k) (s.modify t (It.setst 2))) hkeep.out.1 (by rw [hll]; exact hzr) (by rw [hll]; omega)
        rw [← hsn] at hsh
        have HS := Lib.hid hsh; clear hsh hsn hz hzr hll
        go_wp2_with fail
        refine HS.out.mono ?_
        rintro e w5 ⟨rfl, h5a, h5b, h5c, h5d⟩
        have HF := Lib.hid (And.intro h5a (And.intro (hkeep.out.2.intKeep h5c) (hT.trans h5b))); clear h5a h5b h5c h5d hkeep z0
        go_wp2_with fail
        go_roundg (xn - (k + 1))
        case measure => omega
        case rel => exact ⟨k + 1, by omega, rfl, by go_num, ⟨HF.out.1, HF.out.2.1⟩, HF.out.2.2⟩
      · have hfin := hkeep.out.1
        rw [List.take_of_length_le (by have := HW.out.2.2.2.2.2.2.2.1; omega), ← HW.out.2.2.2.2.2.1] at hfin
        have HF := Lib.hid hfin; clear hfin hkeep
        go_wp2_with fail
        go_ret
        exact ⟨rfl, HF.out, hT⟩
  · have hgi : gIdx s = -1 := if_neg hg
    rw [hgi] at hix
    simp only [if_neg hg, decide_eq_false hg]
    clear hg hgi
    go_enter Try.func179, Try.ntmps179
    go_wp2_with fail
    refine hix.out.mono ?_
    rintro e w1 ⟨rfl, hb1⟩
    have HZ := Lib.hid (And.intro (HM.out.fresh hb1) hb1); clear hb1
    go_wp2_with fail
    go_ret
    exact ⟨rfl, HZ.out.1, Touch.ofBelow HZ.out.2⟩

end Go.Proofs.Ytpkccpegdpodoaa

/- mark: begin, steps, end. -/
namespace Go.Proofs.Ytpkccpegdpodoaa
open Go.RowKit

attribute [local go_sem ↓] Go.wp_at_zero Go.wp_at_succ

theorem MkrA.touchless {w w' : World} {base p : Nat} {F : Nat → Prop} {kind : Int} {mk : Bool} {A : Option Addr} {c : Nat} {s : List It} (h : MkrA w base F p kind mk A c s) (hb : Below w.heap.size w w') : MkrA w' base F p kind mk A c s := by
  obtain ⟨l, h1, h2, h3, h4, h5⟩ := h
  exact ⟨l, h1.fresh hb, h2.fresh hb, h3, h4, h5⟩

theorem begin_no (w : World) (base p : Nat) (F : Nat → Prop) (kind : Int) (s : List It) (h : Mkr w base F p kind true s) :
    Calls Try.prog 125 #[.pointer (some ⟨p, 0, none⟩)] w fun e w' => e = .returned (.tuple #[.int .i64 0, .int .i64 8]) ∧ w = w' := by
  obtain ⟨A, c, l, h1, h2, h3, h4, h5⟩ := h
  have c1 := h1.cell 1 (v := .bool true) rfl
  clear h1 h2 h5
  go_enter Try.func125, Try.ntmps125
  go_wp2
  go_ret2
  exact ⟨rfl, rfl⟩

set_option maxHeartbeats 1600000 in
set_option maxRecDepth 100000 in
theorem begin_yes (w : World) (base p : Nat) (F : Nat → Prop) (kind : Int) (s : List It) (h : Mkr w base F p kind false s) (hs : s.length ≤ 100) :
    Calls Try.prog 125 #[.pointer (some ⟨p, 0, none⟩)] w fun e w' => e = .returned (.tuple #[.int .i64 (heldN s), .int .i64 0]) ∧ Mkr w' base F p kind true (beginI s) ∧ Touch F w w' := by
  obtain ⟨A, c, l, h1, h2, h3, h4, h5⟩ := h
  have hll : s.length = l.length := by rw [← h5, its_length]
  obtain ⟨N, hN⟩ : ∃ N, l.length = N := ⟨_, rfl⟩
  rw [hN] at h1 hll
  have c1 := h1.cell 1 (v := .bool false) rfl
  have z1 := h1.frozen 1
  have b1 := h1.set_ 1 (.bool true)
  have b2 := h2.far_blk h1 (by decide) (by decide) 1 (.bool true)
  have c2 := b1.cell 2 (v := .slice A N c) rfl
  have hA0 : MkrA (w.setCell ⟨p, 1, none⟩ (.bool true)) base F p kind true A c (beginK 0 s) := ⟨l, by rw [hN]; exact b1, b2, h3, h4, by rw [beginK_zero]; exact h5⟩
  have hN100 : N ≤ 100 := by omega
  have H := Lib.hid (And.intro hA0 (And.intro hll ((Touch.refl F w).setCell (p := ⟨p, 1, none⟩) h3 (.bool true)))); clear h1 h2 h5 hll hN b1 b2 hA0
  go_enter Try.func125, Try.ntmps125
  go_wp2_with fail
  clear c1 c2 z1
  go_loopg [4, 19] N (fun gk mv iv wr => ∃ (k m : Nat), k ≤ N ∧ gk = N - k ∧ iv = .int .i64 k ∧ mv = .int .i64 m ∧ m ≤ k ∧ Hid (MkrA wr base F p kind true A c (beginK k s) ∧ heldN (s.take k) = m) ∧ Touch F w wr)
  case atStart => exact ⟨0, 0, Nat.zero_le _, rfl, rfl, rfl, Nat.le_refl _, ⟨H.out.1, rfl⟩, H.out.2.2⟩
  case round =>
    obtain ⟨k, m, hk, rfl, rfl, rfl, hm, hkeep, hT⟩ := hrel
    by_cases hlt : k < N
    · obtain ⟨lk, k1, k2, k3, k4, k5⟩ := hkeep.out.1
      have hlk : lk.length = N := by rw [← its_length, k5, beginK_length, H.out.2.1]
      obtain ⟨x, hx⟩ : ∃ x, lk[k]? = some x := ⟨_, List.getElem?_eq_getElem (by omega)⟩
      obtain ⟨g, rfl, hg1, hg2, q0, q1, q2⟩ := k2.cells hx
      have hsx0 : ∃ y, s[k]? = some y := ⟨_, List.getElem?_eq_getElem (by have := H.out.2.1; omega)⟩
      obtain ⟨y, hsx⟩ := hsx0
      have hyx : y = x.it := by
        have h1 := beginK_get k s k hsx
        rw [if_neg (by omega), ← k5, its_get hx] at h1
        injection h1 with h1; exact h1.symm
      have hst := beginK_step k s hsx
      have hhn := heldN_step s k hsx
      rw [hyx] at hst hhn
      have b0 : (0 : Int) ≤ (k : Int) := by omega
      have b1 : (k : Int) < (N : Int) := by omega
      obtain ⟨xb, hxb⟩ : ∃ b, x.held = b := ⟨_, rfl⟩
      have hxb' : x.it.held = xb := hxb
      rw [hxb] at q2
      rw [hxb'] at hst hhn
      have HX := Lib.hid (And.intro hst (And.intro hhn (And.intro hkeep.out.1 hkeep.out.2))); clear k1 k2 k5 hlk hx hsx hyx hst hhn hkeep hxb hxb'
      cases xb with
      | false =>
        go_wp2_with fail
        go_roundg (N - (k + 1))
        case measure => omega
        case rel => exact ⟨k + 1, m, by omega, rfl, by go_num, rfl, by omega, ⟨by rw [HX.out.1]; exact HX.out.2.2.1.touchless ((Below.refl _ _).alloc (Nat.le_refl _) _), by rw [HX.out.2.1, HX.out.2.2.2]; rfl⟩, hT.alloc _⟩
      | true =>
        go_wp2_with fail
        refine (mshadeA_any _ base p F kind (k : Int) true (some ⟨g, 0, none⟩) c (beginK k s) (HX.out.2.2.1.touchless ((Below.refl _ _).alloc (Nat.le_refl _) _)) (.inr ⟨k, rfl, by rw [beginK_length, H.out.2.1]; exact hlt⟩) (by rw [beginK_length, H.out.2.1]; omega)).mono ?_
        rintro e w5 ⟨rfl, h5a, h5b, h5c, h5d⟩
        have HF := Lib.hid (And.intro h5a ((hT.alloc _).trans h5b)); clear h5a h5b h5c h5d q0 q1 q2
        go_wp2_with fail
        go_roundg (N - (k + 1))
        case measure => omega
        case rel => exact ⟨k + 1, m + 1, by omega, rfl, by go_num, by go_num, by omega, ⟨by rw [HX.out.1]; exact HF.out.1, by rw [HX.out.2.1, HX.out.2.2.2]; rfl⟩, HF.out.2⟩
    · obtain rfl : N = k := by omega
      have hf1 := hkeep.out.1
      have hf2 := hkeep.out.2
      rw [List.take_of_length_le (by have := H.out.2.1; omega)] at hf2
      rw [← H.out.2.1, beginK_all] at hf1
      have HF := Lib.hid (And.intro hf1 hf2); clear hf1 hf2 hkeep
      go_wp2_with fail
      go_ret2
      exact ⟨by rw [HF.out.2]; rfl, ⟨A, c, HF.out.1⟩, hT⟩

theorem steps_no (w : World) (base p : Nat) (F : Nat → Prop) (kind n : Int) (s : List It) (h : Mkr w base F p kind false s) :
    Calls Try.prog 126 #[.pointer (some ⟨p, 0, none⟩), .int .i64 n] w fun e w' => e = .returned (.tuple #[.int .i64 0, .int .i64 8]) ∧ w = w' := by
  obtain ⟨A, c, l, h1, h2, h3, h4, h5⟩ := h
  have c1 := h1.cell 1 (v := .bool false) rfl
  clear h1 h2 h5
  go_enter Try.func126, Try.ntmps126
  go_wp2
  go_ret2
  exact ⟨rfl, rfl⟩
theorem steps_neg (w : World) (base p : Nat) (F : Nat → Prop) (kind n : Int) (s : List It) (h : Mkr w base F p kind true s) (hn : n < 0) :
    Calls Try.prog 126 #[.pointer (some ⟨p, 0, none⟩), .int .i64 n] w fun e w' => e = .returned (.tuple #[.int .i64 0, .int .i64 1]) ∧ w = w' := by
  obtain ⟨A, c, l, h1, h2, h3, h4, h5⟩ := h
  have c1 := h1.cell 1 (v := .bool true) rfl
  clear h1 h2 h5
  go_enter Try.func126, Try.ntmps126
  go_wp2
  go_ret2
  exact ⟨rfl, rfl⟩

theorem stepsI_one (n : Nat) (s : List It) (h : greyAt s < s.length) : stepsI (n + 1) s = ((stepsI n (stepI s)).1, (stepsI n (stepI s)).2 + 1) := by
  show (if greyAt s < s.length then ((stepsI n (stepI s)).1, (stepsI n (stepI s)).2 + 1) else (s, 0)) = _
  rw [if_pos h]
theorem stepsI_none (n : Nat) (s : List It) (h : ¬ greyAt s < s.length) : stepsI n s = (s, 0) := by
  cases n with
  | zero => rfl
  | succ n =>
    show (if greyAt s < s.length then ((stepsI n (stepI s)).1, (stepsI n (stepI s)).2 + 1) else (s, 0)) = _
    rw [if_neg h]

set_option maxHeartbeats 1600000 in
set_option maxRecDepth 100000 in
theorem steps_yes (w : World) (base p n : Nat) (F : Nat → Prop) (kind : Int) (s : List It) (h : Mkr w base F p kind true s) (hi : MInv kind true s) (hn : n ≤ 9223372036854775807) :
    Calls Try.prog 126 #[.pointer (some ⟨p, 0, none⟩), .int .i64 n] w fun e w' => e = .returned (.tuple #[.int .i64 (stepsI n s).2, .int .i64 0]) ∧ Mkr w' base F p kind true (stepsI n s).1 ∧ Touch F w w' := by
  have HM := Lib.hid (And.intro h hi)
  obtain ⟨A, c, l, h1, h2, h3, h4, h5⟩ := h
  have c1 := h1.cell 1 (v := .bool true) rfl
  clear h1 h2 h5 hi
  have hn0 : (0 : Int) ≤ (n : Int) := by omega
  go_enter Try.func126, Try.ntmps126
  go_wp2_with fail
  clear c1
  go_loopg [6] (pot s) (fun gk mv wr => ∃ (k : Nat) (s1 : List It), k ≤ n ∧ mv = .int .i64 k ∧ gk = pot s1 ∧ Hid (Mkr wr base F p kind true s1 ∧ MInv kind true s1 ∧ (stepsI n s).1 = (stepsI (n - k) s1).1 ∧ (stepsI n s).2 = k + (stepsI (n - k) s1).2) ∧ Touch F w wr)
  case atStart => exact ⟨0, s, Nat.zero_le _, rfl, rfl, ⟨HM.out.1, HM.out.2, rfl, by simp⟩, Touch.refl _ _⟩
  case round =>
    obtain ⟨k, s1, hk, rfl, rfl, hkeep, hT⟩ := hrel
    by_cases hlt : k < n
    · have hlt2 : (k : Int) < (n : Int) := by omega
      by_cases hg : greyAt s1 < s1.length
      · have hstep := step_any wr base p F kind s1 hkeep.out.1 hkeep.out.2.1
        simp only [if_pos hg, decide_eq_true hg] at hstep
        have hpot := pot_step hg
        have hone := stepsI_one (n - (k + 1)) s1 hg
        have hnk : n - k = n - (k + 1) + 1 := by omega
        have hinv := hkeep.out.2.1.stepI hg
        obtain ⟨s2, hs2⟩ : ∃ s2, stepI s1 = s2 := ⟨_, rfl⟩
        rw [hs2] at hstep hpot hone hinv
        have e1 := hkeep.out.2.2.1
        have e2 := hkeep.out.2.2.2
        rw [hnk, hone] at e1 e2
        simp only at e1 e2
        have HS := Lib.hid (And.intro hstep (And.intro e1 (And.intro e2 hinv))); clear hstep hone hnk hs2 e1 e2 hg hinv hkeep
        go_wp2_with fail
        refine HS.out.1.mono ?_
        rintro e w5 ⟨rfl, h5a, h5b⟩
        have HF := Lib.hid (And.intro h5a (hT.trans h5b)); clear h5a h5b
        go_wp2_with fail
        go_roundg (pot s2)
        case measure => exact hpot
        case rel => exact ⟨k + 1, s2, by omega, by go_num, rfl, ⟨HF.out.1, HS.out.2.2.2, HS.out.2.1, by have := HS.out.2.2.1; omega⟩, HF.out.2⟩
      · have hstep := step_any wr base p F kind s1 hkeep.out.1 hkeep.out.2.1
        simp only [if_neg hg, decide_eq_false hg] at hstep
        have hone := stepsI_none (n - k) s1 hg
        have e1 := hkeep.out.2.2.1
        have e2 := hkeep.out.2.2.2
        rw [hone] at e1 e2
        simp only [Nat.add_zero] at e1 e2
        have HS := Lib.hid (And.intro hstep (And.intro e1 e2)); clear hstep hone e1 e2 hg hkeep
        go_wp2_with fail
        refine HS.out.1.mono ?_
        rintro e w5 ⟨rfl, h5a, h5b⟩
        have HF := Lib.hid (And.intro h5a (hT.trans h5b)); clear h5a h5b
        go_wp2_with fail
        go_ret2
        exact ⟨by rw [HS.out.2.2]; rfl, by rw [HS.out.2.1]; exact HF.out.1, HF.out.2⟩
    · obtain rfl : n = k := by omega
      have e1 := hkeep.out.2.2.1
      have e2 := hkeep.out.2.2.2
      rw [Nat.sub_self] at e1 e2
      simp only [stepsI, Nat.add_zero] at e1 e2
      have HF := Lib.hid (And.intro hkeep.out.1 (And.intro e1 e2)); clear e1 e2 hkeep
      go_wp2_with fail
      go_ret2
      exact ⟨by rw [HF.out.2.2]; rfl, by rw [HF.out.2.1]; exact HF.out.1, hT⟩

end Go.Proofs.Ytpkccpegdpodoaa

/- mark: end. -/
namespace Go.Proofs.Ytpkccpegdpodoaa
open Go.RowKit

attribute [local go_sem ↓] Go.wp_at_zero Go.wp_at_succ

theorem end_no (w : World) (base p : Nat) (F : Nat → Prop) (kind : Int) (s : List It) (h : Mkr w base F p kind false s) :
    Calls Try.prog 127 #[.pointer (some ⟨p, 0, none⟩)] w fun e w' => e = .returned (.tuple #[.int .i64 0, .int .i64 8]) ∧ w = w' := by
  obtain ⟨A, c, l, h1, h2, h3, h4, h5⟩ := h
  have c1 := h1.cell 1 (v := .bool false) rfl
  clear h1 h2 h5
  go_enter Try.func127, Try.ntmps127
  go_wp2
  go_ret2
  exact ⟨rfl, rfl⟩

theorem sweep1_white {x : It} (h : x.st = 0) : sweep1 x = ⟨[], 3, false⟩ := if_pos h
theorem sweep1_black {x : It} (h : x.st = 2) : sweep1 x = x.setst 0 := by unfold sweep1; rw [if_neg (by omega), if_pos h]
theorem sweep1_other {x : It} (h0 : x.st ≠ 0) (h2 : x.st ≠ 2) : sweep1 x = x := by unfold sweep1; rw [if_neg h0, if_neg h2]
theorem sweepK_id {k : Nat} {s : List It} {x : It} (h : s[k]? = some x) (hf : sweep1 x = x) : sweepK (k + 1) s = sweepK k s := by
  rw [sweepK_step k s id h hf.symm]
  apply List.ext_getElem?; intro i
  rw [get_modify]
  split
  · cases (sweepK k s)[i]? <;> rfl
  · rfl

set_option maxHeartbeats 1600000 in
set_option maxRecDepth 100000 in
theorem end_yes (w : World) (base p : Nat) (F : Nat → Prop) (kind : Int) (s : List It) (h : Mkr w base F p kind true s) (hi : MInv kind true s) :
    Calls Try.prog 127 #[.pointer (some ⟨p, 0, none⟩)] w fun e w' => e = .returned (.tuple #[.int .i64 (endN s), .int .i64 0]) ∧ Mkr w' base F p kind false (endI s) ∧ Touch F w w' := by
  have HM := Lib.hid (And.intro h hi)
  obtain ⟨A, c, l, h1, h2, h3, h4, h5⟩ := h
  have c1 := h1.cell 1 (v := .bool true) rfl
  clear h1 h2 h5 hi
  go_enter Try.func127, Try.ntmps127
  go_wp2_with fail
  clear c1
  go_loopg [] (pot s) (fun gk wr => ∃ (s1 : List It), gk = pot s1 ∧ Hid (Mkr wr base F p kind true s1 ∧ MInv kind true s1 ∧ (stepsI (pot s) s).1 = (stepsI (pot s1) s1).1) ∧ Touch F w wr)
  case atStart => exact ⟨s, rfl, ⟨HM.out.1, HM.out.2, rfl⟩, Touch.refl _ _⟩
  case round =>
    obtain ⟨s1, rfl, hkeep, hT⟩ := hrel
    by_cases hg : greyAt s1 < s1.length
    · have hstep := step_any wr base p F kind s1 hkeep.out.1 hkeep.out.2.1
      simp only [if_pos hg, decide_eq_true hg] at hstep
      have hpot := pot_step hg
      have hone := stepsAll_step hg
      have hinv := hkeep.out.2.1.stepI hg
      obtain ⟨s2, hs2⟩ : ∃ s2, stepI s1 = s2 := ⟨_, rfl⟩
      rw [hs2] at hstep hpot hone hinv
      have HS := Lib.hid (And.intro hstep (And.intro (hkeep.out.2.2.trans hone) hinv)); clear hstep hone hs2 hg hinv hkeep
      go_wp2_with fail
      refine HS.out.1.mono ?_
      rintro e w5 ⟨rfl, h5a, h5b⟩
      have HF := Lib.hid (And.intro h5a (hT.trans h5b)); clear h5a h5b
      go_wp2_with fail
      go_roundg (pot s2)
      case measure => exact hpot
      case rel => exact ⟨s2, rfl, ⟨HF.out.1, HS.out.2.2, HS.out.2.1⟩, HF.out.2⟩
    · have hstep := step_any wr base p F kind s1 hkeep.out.1 hkeep.out.2.1
      simp only [if_neg hg, decide_eq_false hg] at hstep
      have hend : (stepsI (pot s) s).1 = s1 := hkeep.out.2.2.trans (stepsAll_none hg)
      have hsm := hkeep.out.2.1.small
      have HS := Lib.hid (And.intro hstep hend); clear hstep hend hg hkeep
      go_wp2_with fail
      refine HS.out.1.mono ?_
      rintro e w5 ⟨rfl, h5a, h5b⟩
      obtain ⟨A5, c5, l5, m1, m2, m3, m4, m5⟩ := h5a
      have hll : s1.length = l5.length := by rw [← m5, its_length]
      obtain ⟨N, hN⟩ : ∃ N, l5.length = N := ⟨_, rfl⟩
      have c2 := m1.cell 2 (v := .slice A5 l5.length c5) rfl
      rw [hN] at c2 hll
      have HF := Lib.hid (And.intro (show Mkr w5 base F p kind true s1 from ⟨A5, c5, l5, m1, m2, m3, m4, m5⟩) (And.intro (hT.trans h5b) (And.intro hll HS.out.2))); clear m1 m2 m3 m5 hll hN h5b hT HS
      have hN100 : N ≤ 100 := by have := HF.out.2.2.1; omega
      go_wp2_with fail
      clear c2
      go_loopg [4, 18] N (fun gk mv iv wq => ∃ (k m : Nat), k ≤ N ∧ gk = N - k ∧ iv = .int .i64 k ∧ mv = .int .i64 m ∧ m ≤ k ∧ Hid (Mkr wq base F p kind true (sweepK k s1) ∧ whiteN (s1.take k) = m) ∧ Touch F w wq)
      case atStart => exact ⟨0, 0, Nat.zero_le _, rfl, rfl, rfl, Nat.le_refl _, ⟨by rw [sweepK_zero]; exact HF.out.1, rfl⟩, HF.out.2.1⟩
      case round =>
        obtain ⟨k, m, hk, rfl, rfl, rfl, hm, hkeep, hT⟩ := hrel
        obtain ⟨Aq, cq, lq, k1, k2, k3, k4, k5⟩ := hkeep.out.1
        have hlq : lq.length = N := by rw [← its_length, k5, sweepK_length, HF.out.2.2.1]
        rw [hlq] at k1
        have c2 := k1.cell 2 (v := .slice Aq N cq) rfl
        by_cases hlt : k < N
        · obtain ⟨x, hx⟩ : ∃ x, lq[k]? = some x := ⟨_, List.getElem?_eq_getElem (by omega)⟩
          obtain ⟨g, rfl, hg1, hg2, q0, q1, q2⟩ := k2.cells hx
          obtain ⟨y, hsx⟩ : ∃ y, s1[k]? = some y := ⟨_, List.getElem?_eq_getElem (by have := HF.out.2.2.1; omega)⟩
          have hyx : y = x.it := by
            have h1 := sweepK_get k s1 k hsx
            rw [if_neg (by omega), ← k5, its_get hx] at h1
            injection h1 with h1; exact h1.symm
          subst hyx
          have hwn := whiteN_step s1 k hsx
          have b0 : (0 : Int) ≤ (k : Int) := by omega
          have b1 : (k : Int) < (N : Int) := by omega
          obtain ⟨v, hv⟩ : ∃ v, x.st = v := ⟨_, rfl⟩
          have hv' : x.it.st = v := hv
          rw [hv] at q1
          rw [hv'] at hwn
          have z0 := k2.row.frozen (g := g) rfl (k * 3)
          have z1 := k2.row.frozen (g := g) rfl (k * 3 + 1)
          have z2 := k2.row.frozen (g := g) rfl (k * 3 + 2)
          have hne : p ≠ g := fun e => own_ne_ty k2.row k1 (by decide) (by rw [← e]; rfl)
          have hgF := k2.foot g rfl
          by_cases h0 : v = 0
          · subst h0
            have hsw := sweepK_step k s1 (fun _ => ⟨[], 3, false⟩) hsx (sweep1_white hv').symm
            have hgone := k2.setGone hx (by decide) 3 (by unfold I64; omega)
            have hits := its_set lq k x ⟨none, 0, [], 3, false⟩ (fun _ => ⟨[], 3, false⟩) hx rfl
            rw [k5] at hits
            have hbl := ((k1.far (p := ⟨g, k * 3, none⟩) hne (.slice none 0 0)).far (p := ⟨g, k * 3 + 1, none⟩) hne (.int .i64 3)).far (p := ⟨g, k * 3 + 2, none⟩) hne (.bool false)
            have hln : (lq.set k ⟨none, 0, [], 3, false⟩).length = N := by rw [List.length_set]; exact hlq
            have HX := Lib.hid (And.intro hsw (And.intro hgone (And.intro hits (And.intro hbl (And.intro hln (And.intro hwn (And.intro hkeep.out.2 k3))))))); clear hsw hgone hits hbl hln hwn hkeep k1 k2 k3 k5 hlq hx hsx hv hv'
            go_wp2_with fail
            go_roundg (N - (k + 1))
            case measure => omega
            case rel => exact ⟨k + 1, m + 1, by omega, rfl, by go_num, by go_num, by omega, ⟨⟨_, cq, _, by rw [HX.out.2.2.2.2.1]; exact HX.out.2.2.2.1, HX.out.2.1, HX.out.2.2.2.2.2.2.2, h4, by rw [HX.out.2.2.1, HX.out.1]⟩, by rw [HX.out.2.2.2.2.2.1, HX.out.2.2.2.2.2.2.1]; rfl⟩, ((hT.setCell hgF _).setCell hgF _).setCell hgF _⟩
          · by_cases h2 : v = 2
            · subst h2
              have hsw := sweepK_step k s1 (It.setst 0) hsx (sweep1_black hv').symm
              have hset := k2.setSt hx (by decide) 0 (by unfold I64; omega)
              have hits := its_set lq k x { x with st := 0 } (It.setst 0) hx rfl
              rw [k5] at hits
              have hbl := k1.far (p := ⟨g, k * 3 + 1, none⟩) hne (.int .i64 0)
              have hln : (lq.set k { x with st := 0 }).length = N := by rw [List.length_set]; exact hlq
              rw [if_neg h0, Nat.add_zero] at hwn
              have HX := Lib.hid (And.intro hsw (And.intro hset (And.intro hits (And.intro hbl (And.intro hln (And.intro hwn (And.intro hkeep.out.2 k3))))))); clear hsw hset hits hbl hln hwn hkeep k1 k2 k3 k5 hlq hx hsx hv hv' h0 q0 q2
              go_wp2_with fail
              go_roundg (N - (k + 1))
              case measure => omega
              case rel => exact ⟨k + 1, m, by omega, rfl, by go_num, rfl, by omega, ⟨⟨_, cq, _, by rw [HX.out.2.2.2.2.1]; exact HX.out.2.2.2.1, HX.out.2.1, HX.out.2.2.2.2.2.2.2, h4, by rw [HX.out.2.2.1, HX.out.1]⟩, by rw [HX.out.2.2.2.2.2.1]; exact HX.out.2.2.2.2.2.2.1⟩, hT.setCell hgF _⟩
            · have hsw := sweepK_id hsx (sweep1_other (by rw [hv']; exact h0) (by rw [hv']; exact h2))
              have d0 : (v == 0) = false := by simpa using h0
              have d2 : (v == 2) = false := by simpa using h2
              rw [if_neg h0, Nat.add_zero] at hwn
              have HX := Lib.hid (And.intro hsw (And.intro hwn hkeep.out)); clear hsw hwn hkeep k1 k2 k3 k5 hlq hx hsx hv hv' h0 h2 q0 q2
              go_wp2_with fail
              go_roundg (N - (k + 1))
              case measure => omega
              case rel => exact ⟨k + 1, m, by omega, rfl, by go_num, rfl, by omega, ⟨by rw [HX.out.1]; exact HX.out.2.2.1, by rw [HX.out.2.1]; exact HX.out.2.2.2⟩, hT⟩
        · obtain rfl : N = k := by omega
          have zp := k1.frozen 1
          have cp := k1.cell 1 (v := .bool true) rfl
          have hf2 := hkeep.out.2
          have hsl : s1.take N = s1 := List.take_of_length_le (by have := HF.out.2.2.1; omega)
          rw [hsl] at hf2
          have hk5 : sweepK N s1 = s1.map sweep1 := by rw [← HF.out.2.2.1, sweepK_all]
          have hfin : Mkr (wr.setCell ⟨p, 1, none⟩ (.bool false)) base F p kind false (endI s) := ⟨Aq, cq, lq, by rw [hlq]; exact k1.set_ 1 _, k2.far_blk k1 (by decide) (by decide) _ _, k3, k4, by rw [k5, hk5]; unfold endI; rw [HF.out.2.2.2]⟩
          have hTf := hT.setCell (p := ⟨p, 1, none⟩) k3 (.bool false)
          have HE := Lib.hid (And.intro hfin (And.intro hTf hf2)); clear hfin hTf hf2 hsl hk5 k1 k2 k3 k5 hlq hkeep c2
          go_wp2_with fail
          go_ret2
          refine ⟨?_, HE.out.1, HE.out.2.1⟩
          have : endN s = m := by unfold endN; rw [HF.out.2.2.2]; exact HE.out.2.2
          rw [this]; rfl

end Go.Proofs.Ytpkccpegdpodoaa

/- mark: set. -/
namespace Go.Proofs.Ytpkccpegdpodoaa
open Go.RowKit

attribute [local go_sem ↓] Go.wp_at_zero Go.wp_at_succ

theorem At.pre {α : Type} [Enc α] {w : World} {B : Nat} {A : Option Addr} {l r : List α} (h : At w B A (l ++ r)) : At w B A l := fun i x hx => h i x (by rw [List.getElem?_append_left (List.getElem?_eq_some_iff.1 hx).1]; exact hx)
theorem setE_named {s : List It} {d : Dd} (h : namedE s (setL d) ≠ 0) : setE s d = namedE s (setL d) := if_pos h
theorem setE_range {s : List It} {d : Dd} (h : namedE s (setL d) = 0) (h2 : d.n < 0 ∨ ((hasAt s d.a).length : Int) ≤ d.n) : setE s d = 1 := by unfold setE; rw [if_neg (by simpa using h), if_pos h2]
theorem setE_ok {s : List It} {d : Dd} (h : namedE s (setL d) = 0) (h2 : ¬ (d.n < 0 ∨ ((hasAt s d.a).length : Int) ≤ d.n)) : setE s d = 0 := by unfold setE; rw [if_neg (by simpa using h), if_neg h2]
theorem Mkr.fine_len {w : World} {base p : Nat} {F : Nat → Prop} {kind : Int} {mk : Bool} {s : List It} (h : Mkr w base F p kind mk s) : p < w.heap.size := by
  obtain ⟨A, c, l, h1, -⟩ := h; exact h1.lt

theorem Blk.touch {F : Nat → Prop} {w w' : World} {g : Nat} {t : TypeId} {cs : Array Value} (h : Blk w g t cs) (hT : Touch F w w') (hg : ¬ F g) : Blk w' g t cs := (hT.block g h.lt hg).trans h

/-- what a setting leaves -/
def SetPost (base p : Nat) (F : Nat → Prop) (kind : Int) (mk : Bool) (s : List It) (d : Dd) (w : World) (e : Ending) (w' : World) : Prop :=
  e = .returned (.int .i64 (setE s d)) ∧ Mkr w' base F p kind mk (if setE s d = 0 then setI kind mk d s else s) ∧ Touch F w w'
theorem SetPost.no {base p : Nat} {F : Nat → Prop} {kind : Int} {mk : Bool} {s : List It} {d : Dd} {w w' : World} {e : Ending} {v : Int} (hv : setE s d = v) (h0 : v ≠ 0) (he : e = .returned (.int .i64 v)) (hm : Mkr w' base F p kind mk s) (hT : Touch F w w') : SetPost base p F kind mk s d w e w' := by
  unfold SetPost
  rw [hv, if_neg h0]
  exact ⟨he, hm, hT⟩
theorem SetPost.yes {base p : Nat} {F : Nat → Prop} {kind : Int} {mk : Bool} {s s' : List It} {d : Dd} {w w' : World} {e : Ending} (hv : setE s d = 0) (hs : setI kind mk d s = s') (he : e = .returned (.int .i64 0)) (hm : Mkr w' base F p kind mk s') (hT : Touch F w w') : SetPost base p F kind mk s d w e w' := by
  unfold SetPost
  rw [hv, if_pos rfl, hs]
  exact ⟨he, hm, hT⟩

theorem shadeI_same (mk : Bool) (n : Int) {s : List It} {i : Nat} {x : It} (h : s[i]? = some x) : ∃ y, (shadeI mk n s)[i]? = some y ∧ y.has = x.has ∧ y.held = x.held := by
  unfold shadeI
  split
  · rw [get_modify]
    split
    · rw [h]; exact ⟨_, rfl, rfl, rfl⟩
    · rw [h]; exact ⟨_, rfl, rfl, rfl⟩
  · rw [h]; exact ⟨_, rfl, rfl, rfl⟩
theorem set_fin {w : World} {base p t j gx c xc : Nat} {F : Nat → Prop} {kind dd b sn xs : Int} {mk xb : Bool} {A : Option Addr} {s : List It} {l l5 : List ItR} {xh : List Int}
    (h : MkrL w base F p kind mk A c (shadeI mk sn s) l5) (hsa : SameA l l5) (hx : l[t]? = some ⟨some ⟨gx, 0, none⟩, xc, xh, xs, xb⟩) (hl : its l = s) (hj : j < xh.length) (hb : I64 b) (hsn : (if kind = 1 then b else (hasAt s (t : Int)).getD j 0) = sn) :
    Mkr (w.setCell ⟨gx, j, none⟩ (.int .i64 b)) base F p kind mk (setI kind mk ⟨dd, (t : Int), b, (j : Int)⟩ s) ∧ F gx ∧ (∃ v, w.cell? ⟨gx, j, none⟩ = some (.int .i64 v)) ∧ w.frozen? ⟨gx, j, none⟩ = false := by
  obtain ⟨h1, h2, h3, h4, h5⟩ := h
  obtain ⟨x5, hx5, hA, hc⟩ := hsa t _ hx
  simp only at hA hc
  have hsx : s[t]? = some ⟨xh, xs, xb⟩ := by rw [← hl]; exact its_get hx
  have hhas : x5.has = xh := by
    obtain ⟨y, hy, hy2, -⟩ := shadeI_same mk sn hsx
    rw [← h5, its_get hx5] at hy
    injection hy with hy
    rw [← hy] at hy2
    exact hy2
  have hsub := h2.sub t x5 hx5
  have hown := hsub.1
  rw [hA, hc, hhas] at hown
  have hset := h2.setHas hx5 (by decide) hA (j := j) (by rw [hhas]; exact hj) b hb
  have hits := its_set l5 t x5 { x5 with has := x5.has.set j b } (It.sethas j b) hx5 rfl
  rw [h5] at hits
  have hne : p ≠ gx := fun e => own_ne_ty hown h1 (by decide) (by rw [← e]; rfl)
  refine ⟨⟨A, c, _, by rw [List.length_set]; exact h1.far (p := ⟨gx, j, none⟩) hne _, hset, h3, h4, ?_⟩, hsub.2.1 gx (by rw [hA]; rfl), ⟨xh[j], hown.cell_int (List.getElem?_eq_getElem hj)⟩, hown.frozen rfl j⟩
  rw [hits]
  unfold setI
  simp only [Int.toNat_natCast]
  rw [hsn]

set_option maxHeartbeats 1600000 in
set_option maxRecDepth 100000 in
theorem set_any (w : World) (base p : Nat) (F : Nat → Prop) (kind dd a b n : Int) (mk : Bool) (s : List It) (h : Mkr w base F p kind mk s) (hi : MInv kind mk s) (hk : kind = 1 ∨ kind = 2) (hF : ∀ g, F g → g < w.heap.size) (hd : I64 a ∧ I64 b ∧ I64 n) :
    Calls Try.prog 123 #[.pointer (some ⟨p, 0, none⟩), .agg #[.int .i64 dd, .int .i64 a, .int .i64 b, .int .i64 n]] w (SetPost base p F kind mk s ⟨dd, a, b, n⟩ w) := by
  obtain ⟨P, hP⟩ : ∃ P, SetPost base p F kind mk s ⟨dd, a, b, n⟩ w = P := ⟨_, rfl⟩
  have HP := Lib.hid hP
  rw [hP]; clear hP
  have hp := h.fine_len
  have H := Lib.hid (And.intro h (And.intro hi (And.intro hk (And.intro hF hd)))); clear h hi hk hF hd
  have hat2 : ∀ V : World, At (V.alloc (.cells #[.int .i64 a, .int .i64 b] 3)) (V.heap.size + 1) (some ⟨V.heap.size, 0, none⟩) [a, b] := fun V => At.built V _ _ [a, b] rfl (by
    intro z hz
    simp only [List.mem_cons, List.not_mem_nil, or_false] at hz
    rcases hz with rfl | rfl
    · exact H.out.2.2.2.2.1
    · exact H.out.2.2.2.2.2.1)
  have hls : (b == -1) = true ∧ setL ⟨dd, a, b, n⟩ = [a] ∨ (b == -1) = false ∧ setL ⟨dd, a, b, n⟩ = [a, b] := by
    by_cases hb : b = -1
    · exact .inl ⟨by simpa using hb, if_pos hb⟩
    · exact .inr ⟨by simpa using hb, if_neg hb⟩
  have HA2 := Lib.hid hat2; clear hat2
  rcases hls with ⟨d0, hl⟩ | ⟨d0, hl⟩
  all_goals
    have hat : ∀ V : World, At (V.alloc (.cells #[.int .i64 a, .int .i64 b] 3)) (V.heap.size + 1) (some ⟨V.heap.size, 0, none⟩) (setL ⟨dd, a, b, n⟩) := by
      intro V; rw [hl]
      first
        | exact HA2.out V
        | exact At.pre (r := [b]) (HA2.out V)
    have HL := Lib.hid (And.intro hl hat); clear hl hat
    go_enter Try.func123, Try.ntmps123
    go_wp2_with fail
    refine calls_world (fun W => Blk W w.heap.size 97 #[.int .i64 dd, .int .i64 a, .int .i64 b, .int .i64 n] ∧ At W W.heap.size (some ⟨w.heap.size + 1, 0, none⟩) (setL ⟨dd, a, b, n⟩) ∧ Below w.heap.size w W ∧ w.heap.size < W.heap.size) ⟨(Blk.new w _ _).alloc _, ?_, ((Below.refl _ _).alloc (Nat.le_refl _) _).alloc (by simp) _, by simp; omega⟩ ?_
    · have := HL.out.2 (w.alloc (.cells #[.int .i64 dd, .int .i64 a, .int .i64 b, .int .i64 n] 97))
      simpa using this
    rintro W ⟨hD, hAt, hbW, hsW⟩
    refine (mnamed_any W base p W.heap.size 2 _ F kind mk s _ _ (H.out.1.fresh (hbW.mono (Nat.le_refl _))) H.out.2.1.fine hAt (Nat.le_refl _) (by rw [HL.out.1]; rfl) (by decide)).mono ?_
    rintro e w1 ⟨rfl, hb1⟩
    have hs1 := hb1.size
    have hb : Below w.heap.size w w1 := hbW.trans (hb1.mono (by omega))
    have HD := Lib.hid (And.intro (hD.fresh hb1) (And.intro hb (H.out.1.fresh hb))); clear hD hAt hbW hb1 hb
    by_cases hn0 : namedE s (setL ⟨dd, a, b, n⟩) = 0
    · rw [hn0]
      have hz := namedE_zero hn0 a (by rw [HL.out.1]; simp)
      obtain ⟨t, rfl, htl, -⟩ := hz
      obtain ⟨A, c, l, m1, m2, m3, m4, m5⟩ := HD.out.2.2
      have hll : l.length = s.length := by rw [← m5, its_length]
      obtain ⟨L, hL⟩ : ∃ L, l.length = L := ⟨_, rfl⟩
      rw [hL] at m1 hll
      obtain ⟨x, hx⟩ : ∃ x, l[t]? = some x := ⟨_, List.getElem?_eq_getElem (by omega)⟩
      obtain ⟨g, rfl, hg1, hg2, q0, q1, q2⟩ := m2.cells hx
      have hsx : s[t]? = some x.it := by rw [← m5]; exact its_get hx
      obtain ⟨XA, xc, xh, xs, xb⟩ := x
      simp only at q0 q1 q2
      obtain ⟨xn, hxn⟩ : ∃ n, xh.length = n := ⟨_, rfl⟩
      rw [hxn] at q0
      have hat : hasAt s (t : Int) = xh := by unfold hasAt; rw [Int.toNat_natCast, hsx]; rfl
      have p2 := m1.cell 2 (v := .slice (some ⟨g, 0, none⟩) L c) rfl
      have p0 := m1.cell 0 (v := .int .i64 kind) rfl
      have e1 := HD.out.1.cell 1 (v := .int .i64 (t : Int)) rfl
      have e2 := HD.out.1.cell 2 (v := .int .i64 b) rfl
      have e3 := HD.out.1.cell 3 (v := .int .i64 n) rfl
      have t0 : (0 : Int) ≤ (t : Int) := by omega
      have t1 : (t : Int) < (L : Int) := by omega
      have hplt := m1.lt
      have hDlt := HD.out.1.lt
      have hY : ∀ o : Obj, (w1.alloc o).cell? ⟨p, 2, none⟩ = some (.slice (some ⟨g, 0, none⟩) L c) ∧ (w1.alloc o).cell? ⟨w.heap.size, 1, none⟩ = some (.int .i64 (t : Int)) ∧ (w1.alloc o).cell? ⟨g, t * 3, none⟩ = some (.slice XA xn xc) ∧ (w1.alloc o).cell? ⟨g, t * 3 + 1, none⟩ = some (.int .i64 xs) ∧ (w1.alloc o).cell? ⟨g, t * 3 + 2, none⟩ = some (.bool xb) := fun o =>
        ⟨(World.cell?_alloc_lt _ _ _ hplt).trans p2, (World.cell?_alloc_lt _ _ _ hDlt).trans e1, (World.cell?_alloc_lt _ _ _ hg2).trans q0, (World.cell?_alloc_lt _ _ _ hg2).trans q1, (World.cell?_alloc_lt _ _ _ hg2).trans q2⟩
      have HY := Lib.hid hY; clear hY
      have HX := Lib.hid (And.intro m1 (And.intro m2 (And.intro m3 (And.intro m5 (And.intro hll (And.intro hx (And.intro hsx (And.intro hxn (And.intro hat (And.intro hn0 hL)))))))))); clear m1 m2 m3 m5 hll hx hsx hxn hat hn0 hL htl
      go_wp2_with fail
      refine wp_region_held_drew (S := (fun w' => w'.cell? ⟨p, 2, none⟩ = some (.slice (some ⟨g, 0, none⟩) L c) ∧ w'.cell? ⟨w.heap.size, 1, none⟩ = some (.int .i64 (t : Int)) ∧ w'.cell? ⟨g, t * 3, none⟩ = some (.slice XA xn xc) ∧ w'.cell? ⟨g, t * 3 + 1, none⟩ = some (.int .i64 xs) ∧ w'.cell? ⟨g, t * 3 + 2, none⟩ = some (.bool xb))) (by kernel_rfl) ?_ (fun hHeld0 => ?_)
      · first | trivial | ((try dsimp only); (exact ⟨p2, e1, q0, q1, q2⟩))
      refine held_take (v := ?_) 0 rfl (by kernel_rfl) (by kernel_rfl) (by kernel_rfl) (fun _ _ _ h => h) (by rfl) ?_ (by assumption) ?_
      rotate_left
      · (intro w hSw; (try dsimp only at hSw); go_simp; try with_reducible rfl)
      try simp only [Act.put, List.setIfInBounds_toArray, List.set_cons_zero, List.set_cons_succ]
      refine held_take (v := ?_) 1 rfl (by kernel_rfl) (by kernel_rfl) (by kernel_rfl) (fun _ _ _ h => h) (by rfl) ?_ (by assumption) ?_
      rotate_left
      · (intro w hSw; (try dsimp only at hSw); go_simp; try with_reducible rfl)
      try simp only [Act.put, List.setIfInBounds_toArray, List.set_cons_zero, List.set_cons_succ]
      refine held_take (v := ?_) 2 rfl (by kernel_rfl) (by kernel_rfl) (by kernel_rfl) (fun _ _ _ h => h) (by rfl) ?_ (by assumption) ?_
      rotate_left
      · (intro w hSw; (try dsimp only at hSw); go_simp; try with_reducible rfl)
      try simp only [Act.put, List.setIfInBounds_toArray, List.set_cons_zero, List.set_cons_succ]
      refine held_take (v := ?_) 3 rfl (by kernel_rfl) (by kernel_rfl) (by kernel_rfl) (fun _ _ _ h => h) (by rfl) ?_ (by assumption) ?_
      rotate_left
      · (intro w hSw; (try dsimp only at hSw); go_simp; try with_reducible rfl)
      try simp only [Act.put, List.setIfInBounds_toArray, List.set_cons_zero, List.set_cons_succ]
      refine held_take (v := ?_) 4 rfl (by kernel_rfl) (by kernel_rfl) (by kernel_rfl) (fun _ _ _ h => h) (by rfl) ?_ (by assumption) ?_
      rotate_left
      · (intro w hSw; (try dsimp only at hSw); go_simp; try with_reducible rfl)
      try simp only [Act.put, List.setIfInBounds_toArray, List.set_cons_zero, List.set_cons_succ]
      refine held_take (v := ?_) 5 rfl (by kernel_rfl) (by kernel_rfl) (by kernel_rfl) (fun _ _ _ h => h) (by rfl) ?_ (by assumption) ?_
      rotate_left
      · (intro w hSw; (try dsimp only at hSw); go_simp; try with_reducible rfl)
      try simp only [Act.put, List.setIfInBounds_toArray, List.set_cons_zero, List.set_cons_succ]
      refine held_take (v := ?_) 6 rfl (by kernel_rfl) (by kernel_rfl) (by kernel_rfl) (fun _ _ _ h => h) (by rfl) ?_ (by assumption) ?_
      rotate_left
      · (intro w hSw; (try dsimp only at hSw); go_simp; try with_reducible rfl)
      try simp only [Act.put, List.setIfInBounds_toArray, List.set_cons_zero, List.set_cons_succ]
      refine held_take (v := ?_) 7 rfl (by kernel_rfl) (by kernel_rfl) (by kernel_rfl) (fun _ _ _ h => h) (by rfl) ?_ (by assumption) ?_
      rotate_left
      · (intro w hSw; (try dsimp only at hSw); go_simp; try with_reducible rfl)
      try simp only [Act.put, List.setIfInBounds_toArray, List.set_cons_zero, List.set_cons_succ]
      refine held_call 8 (by kernel_rfl) rfl (fun K hK => ?_)
      go_simp
      skip
      refine hK.out _ _ ?_ (fun hHeld1 => ?_)
      · first | trivial | ((try dsimp only); (exact HY.out _))
      clear hK K hHeld0
      try simp only [Act.put, List.setIfInBounds_toArray, List.set_cons_zero, List.set_cons_succ]
      refine held_call 9 (by kernel_rfl) rfl (fun K hK => ?_)
      go_simp
      skip
      refine hK.out _ _ ?_ (fun hHeld2 => ?_)
      · first | trivial | ((try dsimp only); (exact HY.out _))
      clear hK K hHeld1
      try simp only [Act.put, List.setIfInBounds_toArray, List.set_cons_zero, List.set_cons_succ]
      refine wpAnyH_done (by kernel_rfl) ?_ _
      go_upto_region 8 with fail
      refine wp_world (fun V => Hid (MkrL V base F p kind mk (some ⟨g, 0, none⟩) c s l ∧ Blk V w.heap.size 97 #[.int .i64 dd, .int .i64 (t : Int), .int .i64 b, .int .i64 n] ∧ Blk V w1.heap.size 187 #[.slice XA xn xc, .int .i64 xs, .bool xb] ∧ Touch F w V)) ⟨⟨by rw [HX.out.2.2.2.2.2.2.2.2.2.2]; exact (HX.out.1.alloc _).drew, (HX.out.2.1.alloc _).drew, HX.out.2.2.1, m4, HX.out.2.2.2.1⟩, (HD.out.1.alloc _).drew, (Blk.new _ _ _).drew, ((Touch.ofBelow HD.out.2.1).alloc _).drew⟩ ?_
      rintro V hV
      clear p2 p0 e1 e2 e3 q0 q1 q2
      have e3 := hV.out.2.1.cell 3 (v := .int .i64 n) rfl
      have e2 := hV.out.2.1.cell 2 (v := .int .i64 b) rfl
      have x0 := hV.out.2.2.1.cell 0 (v := .slice XA xn xc) rfl
      have p0 := hV.out.1.1.cell 0 (v := .int .i64 kind) rfl
      have hVX := hV.out.2.2.1.lt
      by_cases hr : n < 0 ∨ (xn : Int) ≤ n
      · have HR := Lib.hid (setE_range (d := ⟨dd, (t : Int), b, n⟩) HX.out.2.2.2.2.2.2.2.2.2.1 (by rw [HX.out.2.2.2.2.2.2.2.2.1, HX.out.2.2.2.2.2.2.2.1]; exact hr))
        by_cases hn0 : n < 0
        · clear hr
          go_wp2_with fail
          rw [← HP.out]
          exact SetPost.no HR.out (by decide) rfl ⟨_, c, l, hV.out.1⟩ hV.out.2.2.2
        · have hn1 : (xn : Int) ≤ n := by omega
          clear hr
          go_wp2_with fail
          rw [← HP.out]
          exact SetPost.no HR.out (by decide) rfl ⟨_, c, l, hV.out.1⟩ hV.out.2.2.2
      · have HR := Lib.hid (setE_ok (d := ⟨dd, (t : Int), b, n⟩) HX.out.2.2.2.2.2.2.2.2.2.1 (by rw [HX.out.2.2.2.2.2.2.2.2.1, HX.out.2.2.2.2.2.2.2.1]; exact hr))
        obtain ⟨j, rfl⟩ : ∃ j : Nat, n = (j : Int) := ⟨n.toNat, by omega⟩
        have hj : j < xn := by omega
        have j0 : (0 : Int) ≤ (j : Int) := by omega
        have j1 : (j : Int) < (xn : Int) := by omega
        have nj0 : ¬ (j : Int) < 0 := by omega
        have nj1 : ¬ (xn : Int) ≤ (j : Int) := by omega
        clear hr
        obtain ⟨gx, rfl, hgx1, hgx2⟩ := (hV.out.1.2.1.sub t _ HX.out.2.2.2.2.2.1).1.some_ (by simp only; rw [HX.out.2.2.2.2.2.2.2.1]; omega)
        have hjx : j < xh.length := by rw [HX.out.2.2.2.2.2.2.2.1]; exact hj
        have holdc := (hV.out.1.2.1.sub t _ HX.out.2.2.2.2.2.1).1.cell_int (i := j) (List.getElem?_eq_getElem hjx)
        have holdr := H.out.2.1.refs _ (List.mem_of_getElem? HX.out.2.2.2.2.2.2.1) (xh[j]) (List.getElem_mem hjx)
        obtain ⟨old, hold⟩ : ∃ o, xh[j] = o := ⟨_, rfl⟩
        simp only [hold] at holdc
        rw [hold] at holdr
        have hgd : (hasAt s (t : Int)).getD j 0 = old := by rw [HX.out.2.2.2.2.2.2.2.2.1, List.getD_eq_getElem?_getD, List.getElem?_eq_getElem hjx, hold]; rfl
        have hbv : b = -1 ∨ ∃ m : Nat, b = (m : Int) ∧ m < s.length := by
          by_cases hb1 : b = -1
          · exact .inl hb1
          · obtain ⟨m, e, e2, -⟩ := namedE_zero HX.out.2.2.2.2.2.2.2.2.2.1 b (by rw [HL.out.1]; first | (simp; done) | (exfalso; exact hb1 (by simpa using d0)))
            exact .inr ⟨m, e, e2⟩
        have hfin := fun (W5 : World) (l5 : List ItR) (sn : Int) (h : MkrL W5 base F p kind mk (some ⟨g, 0, none⟩) c (shadeI mk sn s) l5) (hsa : SameA l l5) (hsn : (if kind = 1 then b else (hasAt s (t : Int)).getD j 0) = sn) => set_fin (dd := dd) h hsa HX.out.2.2.2.2.2.1 HX.out.2.2.2.1 hjx H.out.2.2.2.2.2.1 hsn
        have hnD : ¬ F w.heap.size := fun e => by have := H.out.2.2.2.1 _ e; omega
        have hnX : ¬ F w1.heap.size := fun e => by have := H.out.2.2.2.1 _ e; omega
        have HB := Lib.hid (And.intro hbv (And.intro holdr (And.intro hgd hfin)))
        clear hbv holdr hgd hfin hold hjx hgx1 hgx2
        have hs1000 : s.length ≤ 1000 := by have := H.out.2.1.small; omega
        rcases H.out.2.2.1 with hk1 | hk2
        · subst hk1
          go_wp2_with fail
          refine (mshadeL_any V base p F 1 b mk _ c s l hV.out.1 HB.out.1 hs1000).mono ?_
          rintro e w5 ⟨rfl, ⟨l5, m5a, m5b⟩, m5c, m5d, m5e⟩
          obtain ⟨f1, f2, ⟨ov, f3⟩, f4⟩ := HB.out.2.2.2 w5 l5 b m5a m5b (by simp)
          have hx5 := hV.out.2.2.1.touch m5c hnX
          have hd5 := hV.out.2.1.touch m5c hnD
          clear e2 e3 x0 p0 holdc
          have x0 := hx5.cell 0 (v := .slice (some ⟨gx, 0, none⟩) xn xc) rfl
          have e2 := hd5.cell 2 (v := .int .i64 b) rfl
          have e3 := hd5.cell 3 (v := .int .i64 (j : Int)) rfl
          have HQ := Lib.hid (And.intro f1 (And.intro ((hV.out.2.2.2.trans m5c).setCell (p := ⟨gx, j, none⟩) f2 (.int .i64 b)) True.intro)); clear f1 f2 m5a m5b m5c m5d m5e hx5 hd5
          go_wp2_with fail
          rw [← HP.out]
          exact SetPost.yes HR.out rfl rfl HQ.out.1 HQ.out.2.1
        · subst hk2
          go_wp2_with fail
          refine (mshadeL_any V base p F 2 old mk _ c s l hV.out.1 (HB.out.2.1.imp id (fun ⟨m, e, e2, _⟩ => ⟨m, e, e2⟩)) hs1000).mono ?_
          rintro e w5 ⟨rfl, ⟨l5, m5a, m5b⟩, m5c, m5d, m5e⟩
          obtain ⟨f1, f2, ⟨ov, f3⟩, f4⟩ := HB.out.2.2.2 w5 l5 old m5a m5b (by rw [if_neg (by decide)]; exact HB.out.2.2.1)
          have hx5 := hV.out.2.2.1.touch m5c hnX
          have hd5 := hV.out.2.1.touch m5c hnD
          clear e2 e3 x0 p0 holdc
          have x0 := hx5.cell 0 (v := .slice (some ⟨gx, 0, none⟩) xn xc) rfl
          have e2 := hd5.cell 2 (v := .int .i64 b) rfl
          have e3 := hd5.cell 3 (v := .int .i64 (j : Int)) rfl
          have HQ := Lib.hid (And.intro f1 (And.intro ((hV.out.2.2.2.trans m5c).setCell (p := ⟨gx, j, none⟩) f2 (.int .i64 b)) True.intro)); clear f1 f2 m5a m5b m5c m5d m5e hx5 hd5
          go_wp2_with fail
          rw [← HP.out]
          exact SetPost.yes HR.out rfl rfl HQ.out.1 HQ.out.2.1
    · have HN := Lib.hid hn0
      have d1 : (namedE s (setL ⟨dd, a, b, n⟩) != 0) = true := by simpa using hn0
      obtain ⟨er, her⟩ : ∃ er, namedE s (setL ⟨dd, a, b, n⟩) = er := ⟨_, rfl⟩
      rw [her] at d1 ⊢
      have HER := Lib.hid (And.intro her hn0); clear her hn0
      go_wp2_with fail
      rw [← HP.out]
      exact SetPost.no ((setE_named HER.out.2).trans HER.out.1) (by rw [← HER.out.1]; exact HER.out.2) rfl HD.out.2.2 (Touch.ofBelow HD.out.2.1)

end Go.Proofs.Ytpkccpegdpodoaa
