/- OM: MkB, OwnL, OwnM, OwA, OwB, OwnN, Weak2, SrtI, OwC, OwD, Rept, Weak3, Held3. -/
import Derived.Test.YtpkccpegdpodoaaOM1
import Derived.Handy
import Derived.Deep.DeepCutAuto
import Derived.Deep.DrawnRows
import Derived.StillTailTactics
import Derived.IntWalk
import Derived.Shelf.SortM.Plain
import Derived.Shelf.SortM.SortNone
import Derived.Ground.SlgmProg
import Derived.Sort.OwnSortedInts
import Derived.Shelf.SlicesG.Reverse
import Derived.Ground.SlgnProg
import Derived.BigQuiet
import Derived.Laws.Bits64b
import Derived.Laws.CopyOwn
import Derived.Deep.OwnRows
import Derived.Deep.RegionHeld3
/- Graphs of things, built one by one: what a row of rows holds. -/
namespace Go.Proofs.Ytpkccpegdpodoaa
open Go.RowKit

/-- a list of ints as it lies -/
structure SlR where
  A : Option Addr
  c : Nat
  l : List Int
instance : Flat SlR where
  cells x := [.slice x.A x.l.length x.c]
  sz := 1
  len _ := rfl
  ok _ := True
theorem slr_one : ∀ x : SlR, ∀ u ∈ Flat.cells x, u.oneCell' = true := by
  intro x u hu; simp [Flat.cells] at hu; subst hu; rfl

/-- a graph that is being built: rows of its own, and its roots -/
structure GrS (w : World) (base : Nat) (HA : Option Addr) (hc : Nat) (RA : Option Addr) (rc : Nat) (hs : List SlR) (rs : List Int) : Prop where
  row : Own w base 47 HA hc hs
  sub : ∀ (i : Nat) (x : SlR), hs[i]? = some x → Own w base 3 x.A x.c x.l ∧ ∀ k ∈ x.l, I64 k
  roots : Own w base 3 RA rc rs
  apart : ∀ (i : Nat) (x : SlR), hs[i]? = some x → ∀ g, rowOf x.A = some g → rowOf RA ≠ some g

section
variable {w w' : World} {base : Nat} {HA HA' RA RA' : Option Addr} {hc hc' rc rc' : Nat} {hs : List SlR} {rs : List Int}
theorem GrS.start (w : World) (base : Nat) : GrS w base none 0 none 0 [] [] := ⟨Own.nil_, fun i x h => by simp at h, Own.nil_, fun i x h => by simp at h⟩
theorem GrS.fresh (h : GrS w base HA hc RA rc hs rs) (hb : Below w.heap.size w w') : GrS w' base HA hc RA rc hs rs :=
  ⟨h.row.fresh hb, fun i x hx => ⟨(h.sub i x hx).1.fresh hb, (h.sub i x hx).2⟩, h.roots.fresh hb, h.apart⟩
theorem GrS.alloc (h : GrS w base HA hc RA rc hs rs) (o : Obj) : GrS (w.alloc o) base HA hc RA rc hs rs := h.fresh ((Below.refl _ _).alloc (Nat.le_refl _) _)
theorem GrS.drew (h : GrS w base HA hc RA rc hs rs) : GrS w.drew base HA hc RA rc hs rs := ⟨h.row.drew, fun i x hx => ⟨(h.sub i x hx).1.drew, (h.sub i x hx).2⟩, h.roots.drew, h.apart⟩
/-- a store into a block of another type -/
theorem GrS.blk (h : GrS w base HA hc RA rc hs rs) {g : Nat} {t : TypeId} {cs : Array Value} (hg : Blk w g t cs) (h1 : 47 ≠ t) (h2 : 3 ≠ t) (i : Nat) (u : Value) : GrS (w.setCell ⟨g, i, none⟩ u) base HA hc RA rc hs rs :=
  ⟨h.row.setCell _ _ (own_ne_ty h.row hg h1), fun j x hx => ⟨(h.sub j x hx).1.setCell _ _ (own_ne_ty (h.sub j x hx).1 hg h2), (h.sub j x hx).2⟩, h.roots.setCell _ _ (own_ne_ty h.roots hg h2), h.apart⟩
theorem push_case {α : Type} {l : List α} {y : α} {i : Nat} {x : α} (h : (l ++ [y])[i]? = some x) : l[i]? = some x ∨ i = l.length ∧ x = y := by
  have hlt := (List.getElem?_eq_some_iff.1 h).1
  rw [List.length_append, List.length_singleton] at hlt
  by_cases e : i < l.length
  · rw [List.getElem?_append_left e] at h; exact .inl h
  · obtain rfl : i = l.length := by omega
    simp at h; exact .inr ⟨rfl, h.symm⟩
/-- one more row -/
theorem GrS.push {y : SlR} (h : GrS w base HA hc RA rc hs rs) (hrow : Own w' base 47 HA' hc' (hs ++ [y])) (hg : w.grownBy w' (rowOf HA)) (hy : Own w base 3 y.A y.c y.l) (hyk : ∀ k ∈ y.l, I64 k) (hya : ∀ g, rowOf y.A = some g → rowOf RA ≠ some g) :
    GrS w' base HA' hc' RA rc (hs ++ [y]) rs := by
  have grow : ∀ {z : SlR}, Own w base 3 z.A z.c z.l → Own w' base 3 z.A z.c z.l := fun {z} hz => hz.grown hg (fun g hg' e => own_own_ty h.row hz (by decide) g e hg')
  refine ⟨hrow, fun i x hx => ?_, h.roots.grown hg (fun g hg' e => own_own_ty h.row h.roots (by decide) g e hg'), fun i x hx => ?_⟩
  · rcases push_case hx with hx | ⟨-, rfl⟩
    · exact ⟨grow (h.sub i x hx).1, (h.sub i x hx).2⟩
    · exact ⟨grow hy, hyk⟩
  · rcases push_case hx with hx | ⟨-, rfl⟩
    · exact h.apart i x hx
    · exact hya
/-- one more root -/
theorem GrS.root {k : Int} (h : GrS w base HA hc RA rc hs rs) (hrow : Own w' base 3 RA' rc' (rs ++ [k])) (hg : w.grownBy w' (rowOf RA)) (hat : rowOf RA' = rowOf RA ∨ rowOf RA' = some w.heap.size) : GrS w' base HA hc RA' rc' hs (rs ++ [k]) := by
  refine ⟨h.row.grown hg (fun g hg' e => own_own_ty h.row h.roots (by decide) g hg' e), fun i x hx => ⟨(h.sub i x hx).1.grown hg (fun g hg' e => h.apart i x hx g hg' e), (h.sub i x hx).2⟩, hrow, fun i x hx g hg' => ?_⟩
  rcases hat with e | e
  · rw [e]; exact h.apart i x hx g hg'
  · rw [e]; intro e2; injection e2 with e2; have := ((h.sub i x hx).1.lt g hg').2; omega
/-- the rows read as lists -/
theorem GrS.at_ (h : GrS w base HA hc RA rc hs rs) : At w w.heap.size HA (hs.map SlR.l) := by
  intro i x hx
  rw [List.getElem?_map] at hx
  cases hs' : hs[i]? with
  | none => rw [hs'] at hx; cases hx
  | some y =>
    rw [hs'] at hx
    injection hx with hx
    subst hx
    obtain ⟨b, o, cs, hA, hb, hc, hr⟩ := h.row.at_ (fun _ _ => trivial) i y hs'
    have hy := h.sub i y hs'
    have hcap := hy.1.le_cap
    refine ⟨b, o, cs, hA, hb, hc, y.A, y.c, hr.1, hcap.1, hcap.2, fun e => ?_, hy.1.at_ (fun k hk => hy.2 k hk)⟩
    rcases hy.1.2 with ⟨h1, -⟩ | ⟨g', cap, cur, hv, -⟩
    · injection h1
    · rw [e] at hv; injection hv with hv; cases hv
end

theorem infoIntsG : (Try.prog.info? 47).map (fun i => (i.zero, i.size, i.bytes)) = some (some (.slice none 0 0), 1, 24) := by kernel_rfl
theorem gHas_take (s : List It) (k : Nat) (x : It) (h : s[k]? = some x) : gHas (s.take (k + 1)) = gHas (s.take k) ++ [x.has.filter fun k => decide (0 ≤ k)] := by
  unfold gHas; rw [List.take_add_one, h]; simp
theorem gRoots_take (s : List It) (k : Nat) (x : It) (h : s[k]? = some x) : gRoots (s.take (k + 1)) = gRoots (s.take k) ++ if x.held = true then [(k : Int)] else [] := by
  unfold gRoots
  rw [List.map_take, List.map_take]
  exact rising_snoc _ _ _ (by rw [List.getElem?_map, h]; rfl)
theorem gRoots_len (s : List It) : (gRoots s).length ≤ s.length := by
  unfold gRoots; have := rising_length (s.map It.held); rw [List.length_map] at this; exact this

/-- what a graph's function leaves -/
def GrPost (s : List It) (w : World) (e : Ending) (w' : World) : Prop :=
  ∃ (HA RA : Option Addr) (hc rc m : Nat), e = .returned (.agg #[.slice HA s.length hc, .slice RA m rc]) ∧ At w' w'.heap.size HA (gHas s) ∧ Own w' w.heap.size 3 RA rc (gRoots s) ∧ (gRoots s).length = m ∧ Below w.heap.size w w'

theorem egGraph1 : ∀ args w, (callFunc 137 args).run Try.prog w = .ok (.enter 137 args) w := fun _ _ => by kernel_rfl
theorem graph1_any (x : Int) (w : World) : Calls Try.prog 137 #[.int .i64 x] w fun e w' => e = .returned (.bool (decide (x < 0))) ∧ w = w' := by
  go_enter Try.func137, Try.ntmps137
  go_wp2
  go_ret
  exact ⟨rfl, rfl⟩
theorem filter_neg (l : List Int) : (l.filter fun x => !decide (x < 0)) = l.filter fun k => decide (0 ≤ k) := by
  congr 1; funext x
  by_cases h : x < 0
  · have h2 : ¬ 0 ≤ x := by omega
    simp [h, h2]
  · have h2 : 0 ≤ x := by omega
    simp [h, h2]

theorem results_cell1 {P : Program} {fn : Func} {p : Tmp} {ty : TypeId} (h : fn.results = #[.cell p ty]) (tmps : Array Value) (w : World) (g : Nat) (t : TypeId) (cs : Array Value) (d : TypeDesc)
    (hp : tmps.getD p undef = .pointer (some ⟨g, 0, none⟩)) (hg : Blk w g t cs)
    (hu : P.underlying ty = some d) (hd : (match d with | .struct _ | .array _ _ => true | _ => false) = true) (hi : (P.info? ty).map (·.size) = some cs.size) :
    (results fn tmps).run P w = .ok (.agg cs) w := by
  have hp' : tmps[p]?.getD undef = .pointer (some ⟨g, 0, none⟩) := by simpa using hp
  simp [results, h, hp', asAddr, run_loadVar_row w g t ty cs (0, 0) d hg hu hd hi]

/-- the graph's block and what it holds -/
def GrB (w : World) (base G k m : Nat) (s : List It) : Prop :=
  ∃ (HA RA : Option Addr) (hc rc : Nat) (hs : List SlR), Blk w G 49 #[.slice HA k hc, .slice RA m rc] ∧ GrS w base HA hc RA rc hs (gRoots (s.take k)) ∧ hs.map SlR.l = gHas (s.take k) ∧ hs.length = k ∧ (gRoots (s.take k)).length = m

set_option maxHeartbeats 1600000 in
set_option maxRecDepth 100000 in
theorem mgraph_any (w : World) (base p : Nat) (F : Nat → Prop) (kind : Int) (mk : Bool) (s : List It) (h : Mkr w base F p kind mk s) (hs : s.length ≤ 100) (hx : ∀ x ∈ s, x.has.length ≤ 10) :
    Calls Try.prog 57 #[.pointer (some ⟨p, 0, none⟩)] w (GrPost s w) := by
  obtain ⟨i0, hi, hz0, hz1, hz2⟩ := info_parts infoInt
  obtain ⟨j0, hj, hy0, hy1, hy2⟩ := info_parts infoIntsG
  obtain ⟨A, c, l, h1, h2, h3, h4, h5⟩ := h
  have hl : s.length = l.length := by rw [← h5, its_length]
  obtain ⟨N, hN⟩ : ∃ N, l.length = N := ⟨_, rfl⟩
  rw [hN] at h1 hl
  rw [hl] at hs
  have c2 := h1.cell 2 (v := .slice A N c) rfl
  have hplt := h1.lt
  have H := Lib.hid (And.intro h1 (And.intro h2 (And.intro h5 (And.intro hx (And.intro hl hN))))); clear h1 h2 h5 hl hx hN
  go_enter Try.func57, Try.ntmps57
  go_wp2_with fail
  clear c2
  go_loopg [11] N (fun gk iv wr => ∃ (k m : Nat), k ≤ N ∧ gk = N - k ∧ iv = .int .i64 k ∧ m ≤ k ∧ Hid (GrB wr w.heap.size (w.heap.size + 1) k m s ∧ Blk wr w.heap.size 49 #[.slice none 0 0, .slice none 0 0]) ∧ Below w.heap.size w wr)
  case atStart =>
    refine ⟨0, 0, Nat.zero_le _, rfl, rfl, Nat.le_refl _, ⟨⟨none, none, 0, 0, [], Blk.at_ _ _ _ (by simp), GrS.start _ _, by simp [gHas], rfl, by simp [gRoots, rising, risingFrom]⟩, (Blk.new w _ _).alloc _⟩, ((Below.refl _ _).alloc (Nat.le_refl _) _).alloc (by simp) _⟩
  case round =>
    obtain ⟨k, m, hk, rfl, rfl, hm, hkeep, hbl⟩ := hrel
    have hsz := hbl.size
    by_cases hlt : k < N
    · obtain ⟨x, hx⟩ : ∃ x, l[k]? = some x := ⟨_, List.getElem?_eq_getElem (by have := H.out.2.2.2.2.2; omega)⟩
      have hits := H.out.2.1.fresh hbl
      obtain ⟨g, rfl, hg1, hg2, q0, q1, q2⟩ := hits.cells hx
      obtain ⟨hxo, -, hxi, hxs⟩ := hits.sub k x hx
      obtain ⟨XA, xc, xh, xs, xb⟩ := x
      simp only at q0 q1 q2 hxo hxi hxs
      have hsx : s[k]? = some ⟨xh, xs, xb⟩ := by have := its_get hx; rw [H.out.2.2.1] at this; exact this
      have hx10 : xh.length ≤ 10 := H.out.2.2.2.1 _ (List.mem_of_getElem? hsx)
      have b0 : (0 : Int) ≤ (k : Int) := by omega
      have b1 : (k : Int) < (N : Int) := by omega
      have ht1 := gHas_take s k _ hsx
      have ht2 := gRoots_take s k _ hsx
      simp only at ht1 ht2
      obtain ⟨y, hy⟩ : ∃ y, (xh.filter fun k => decide (0 ≤ k)) = y := ⟨_, rfl⟩
      rw [hy] at ht1
      have hyi : ∀ k ∈ y, I64 k := fun k hk => by rw [← hy] at hk; exact hxi k (List.mem_filter.1 hk).1
      have HX := Lib.hid (And.intro ht1 (And.intro ht2 (And.intro hy (And.intro hyi (And.intro hxi (And.intro hx10 hkeep.out))))))
      have HO := Lib.hid hxo
      clear ht1 ht2 hy hyi hxi hxo hsx hx hits hkeep
      go_wp2_with fail
      refine wp_world (fun W => GrB W w.heap.size (w.heap.size + 1) k m s ∧ Blk W w.heap.size 49 #[.slice none 0 0, .slice none 0 0] ∧ Blk W wr.heap.size 187 #[.slice XA xh.length xc, .int .i64 xs, .bool xb] ∧ Below wr.heap.size wr W ∧ wr.heap.size < W.heap.size) ⟨?_, HX.out.2.2.2.2.2.2.2.alloc _, Blk.new _ _ _, (Below.refl _ _).alloc (Nat.le_refl _) _, by simp⟩ ?_
      · obtain ⟨HA, RA, hc, rc, hs', d1, d2, d3⟩ := HX.out.2.2.2.2.2.2.1
        exact ⟨HA, RA, hc, rc, hs', d1.alloc _, d2.alloc _, d3⟩
      rintro W ⟨⟨HA, RA, hc, rc, hs', d1, d2, d3, d4, d5⟩, d6, d7, d8, d9⟩
      have g0 := d1.cell 0 (v := .slice HA k hc) rfl
      have g1 := d1.cell 1 (v := .slice RA m rc) rfl
      have x0 := d7.cell 0 (v := .slice XA xh.length xc) rfl
      have x2 := d7.cell 2 (v := .bool xb) rfl
      have HW := Lib.hid (And.intro d1 (And.intro d2 (And.intro d3 (And.intro d4 (And.intro d5 (And.intro d6 (And.intro d7 (And.intro d8 ((HO.out.fresh d8).at_ HX.out.2.2.2.2.1)))))))))
      have hGX : w.heap.size + 1 ≠ wr.heap.size := fun e => by have := d7; rw [← e] at this; have h0 := d1; unfold Blk at this h0; rw [h0] at this; injection this with this; injection this with _ this _; exact absurd this (by decide)
      have hGW := d1.lt
      clear d1 d2 d3 d4 d5 d6 d7 d8 q0 q1 q2
      go_cut [] from 16 to 24 (fun V => ∃ (A3 A1 : Option Addr) (c3 c1 : Nat), Hid (Blk V (w.heap.size + 1) 49 #[.slice A3 (k + 1) c3, .slice RA m rc] ∧ GrS V w.heap.size A3 c3 RA rc (hs' ++ [⟨A1, c1, y⟩]) (gRoots (s.take k)) ∧ Blk V wr.heap.size 187 #[.slice XA xh.length xc, .int .i64 xs, .bool xb] ∧ Blk V w.heap.size 49 #[.slice none 0 0, .slice none 0 0]) ∧ Below w.heap.size w V)
      case first =>
        refine wp_region_held_drew (S := (fun w' => w'.cell? ⟨wr.heap.size, 0, none⟩ = some (.slice XA xh.length xc))) (by kernel_rfl) ?_ (fun hHeld0 => ?_)
        · first | trivial | ((try dsimp only); (exact x0))
        refine held_take (v := ?_) 0 rfl (by kernel_rfl) (by kernel_rfl) (by kernel_rfl) (fun _ _ _ h => h) (by rfl) ?_ (by assumption) ?_
        rotate_left
        · (intro w hSw; (try dsimp only at hSw); go_simp; try with_reducible rfl)
        try simp only [Act.put, List.setIfInBounds_toArray, List.set_cons_zero, List.set_cons_succ]
        refine held_take (v := ?_) 2 rfl (by kernel_rfl) (by kernel_rfl) (by kernel_rfl) (fun _ _ _ h => h) (by rfl) ?_ (by assumption) ?_
        rotate_left
        · (intro w hSw; (try dsimp only at hSw); go_simp; try with_reducible rfl)
        try simp only [Act.put, List.setIfInBounds_toArray, List.set_cons_zero, List.set_cons_succ]
        refine held_take (v := ?_) 3 rfl (by kernel_rfl) (by kernel_rfl) (by kernel_rfl) (fun _ _ _ h => h) (by rfl) ?_ (by assumption) ?_
        rotate_left
        · (intro w hSw; (try dsimp only at hSw); go_simp; try with_reducible rfl)
        try simp only [Act.put, List.setIfInBounds_toArray, List.set_cons_zero, List.set_cons_succ]
        refine held_call2 1 4 (by kernel_rfl) rfl rfl (fun K hK => ?_) (fun K hK => ?_)
        · go_simp
          skip
          refine hK.out _ _ ?_ (fun hHeld1 => ?_)
          · first | trivial | ((try dsimp only); (exact x0))
          clear hK K hHeld0
          try simp only [Act.put, List.setIfInBounds_toArray, List.set_cons_zero, List.set_cons_succ]
          refine held_call 4 (by kernel_rfl) rfl (fun K hK => ?_)
          go_simp
          go_at_call 136; refine (cloneInt_any XA xc W.heap.size xh.length xh W.drew rfl HW.out.2.2.2.2.2.2.2.2.drew (Nat.le_refl _) (by have := HX.out.2.2.2.2.2.1; omega)).mono ?_; rintro e w1 ⟨A1, c1, rfl, ho1, hb1⟩; have hs1 := hb1.size; have f0 := (hb1.cell (p := ⟨w.heap.size + 1, 0, none⟩) hGW).trans g0; have f1 := (hb1.cell (p := ⟨wr.heap.size, 0, none⟩) d9).trans x0; have HC1 := Lib.hid (And.intro ho1 (undrew hb1)); clear ho1 hb1
          try (go_wp2_with fail)
          refine hK.out _ _ ?_ (fun hHeld2 => ?_)
          · first | trivial | ((try dsimp only); (exact f1))
          clear hK K hHeld1
          try simp only [Act.put, List.setIfInBounds_toArray, List.set_cons_zero, List.set_cons_succ]
          refine held_call 5 (by kernel_rfl) rfl (fun K hK => ?_)
          go_simp
          go_at_call 135; refine (deleteFuncInt_any A1 c1 W.heap.size 137 xh.length #[] (fun x => decide (x < 0)) xh w1 rfl HC1.out.1 (fun x hx => HX.out.2.2.2.2.1 x hx) egGraph1 (fun W' x _ _ _ => (graph1_any x W').mono fun e w' ⟨he, hw⟩ => ⟨he, by subst hw; exact Below.refl _ _⟩)).mono ?_; rintro e w2 ⟨rfl, ho2, hgr2⟩; rw [filter_neg, HX.out.2.2.1] at ho2; rw [filter_neg, HX.out.2.2.1]; have hb2 : Below W.heap.size W w2 := HC1.out.2.grown hgr2 hs1 (fun g hg => (HC1.out.1.lt g hg).1); have hs2 := hb2.size; have f2 := (hb2.cell (p := ⟨w.heap.size + 1, 0, none⟩) hGW).trans g0; have f3 := (hb2.cell (p := ⟨wr.heap.size, 0, none⟩) d9).trans x0; have f4 : (w2.alloc (.cells #[.slice A1 y.length c1] 47)).cell? ⟨w.heap.size + 1, 0, none⟩ = some (.slice HA k hc) := (World.cell?_alloc_lt _ _ _ (by simp; omega)).trans f2; have f5 : (w2.alloc (.cells #[.slice A1 y.length c1] 47)).cell? ⟨wr.heap.size, 0, none⟩ = some (.slice XA xh.length xc) := (World.cell?_alloc_lt _ _ _ (by simp; omega)).trans f3; have HC2 := Lib.hid (And.intro ho2 (And.intro hb2 (And.intro (HW.out.2.1.fresh hb2) (HW.out.1.fresh hb2)))); clear ho2 hgr2 hb2
          try (go_wp2_with fail)
          refine hK.out _ _ ?_ (fun hHeld3 => ?_)
          · first | trivial | ((try dsimp only); (exact f3))
          clear hK K hHeld2
          try simp only [Act.put, List.setIfInBounds_toArray, List.set_cons_zero, List.set_cons_succ]
          refine held_call 6 (by kernel_rfl) rfl (fun K hK => ?_)
          go_simp
          skip
          refine hK.out _ _ ?_ (fun hHeld4 => ?_)
          · first | trivial | ((try dsimp only); (exact f5))
          clear hK K hHeld3
          try simp only [Act.put, List.setIfInBounds_toArray, List.set_cons_zero, List.set_cons_succ]
          refine held_call 7 (by kernel_rfl) rfl (fun K hK => ?_)
          refine step_app (α := SlR) (n := k) (m := 1) (nm := k + 1) (r := [⟨A1, c1, y⟩]) (by rfl) (.tmp 17) (.tmp 22) _ (by rfl) w.heap.size 47 j0 _ 24 Try.underlying46 hj hy0 hy1 hy2 rfl (by decide) slr_one (by rfl) HW.out.2.2.2.1 (HC2.out.2.2.1.row.alloc _) (B := w2.heap.size + 1) (X := some ⟨w2.heap.size, 0, none⟩) (d := 1) (by rfl) (At.built w2 _ _ [(⟨A1, c1, y⟩ : SlR)] rfl (fun _ _ => trivial)) rfl rfl (by omega) (by simp only [maxLen]; omega) (by simp; omega) ?_; intro A3 c3 w3 ho3 hgr3 hat3; have n1 := (HC2.out.2.2.2.alloc (.cells #[.slice A1 y.length c1] 47)).grown hgr3 (fun e => own_ne_ty (HC2.out.2.2.1.row.alloc (.cells #[.slice A1 y.length c1] 47)) (HC2.out.2.2.2.alloc (.cells #[.slice A1 y.length c1] 47)) (by decide) e); have m1 := n1.frozen 0; have n2 := (HW.out.2.2.2.2.2.2.1.fresh HC2.out.2.1).alloc (.cells #[.slice A1 y.length c1] 47); have n3 := n2.grown hgr3 (fun e => own_ne_ty (HC2.out.2.2.1.row.alloc (.cells #[.slice A1 y.length c1] 47)) n2 (by decide) e); have m2 := n3.cell 0 (v := .slice XA xh.length xc) rfl; have m3 := n1.cell 0 (v := .slice HA k hc) rfl
          refine hK.out _ _ ?_ (fun hHeld5 => ?_)
          · first | trivial | ((try dsimp only); (exact m2))
          clear hK K hHeld4
          try simp only [Act.put, List.setIfInBounds_toArray, List.set_cons_zero, List.set_cons_succ]
          refine held_take (v := ?_) 8 rfl (by kernel_rfl) (by kernel_rfl) (by kernel_rfl) (fun _ _ _ h => h) (by rfl) ?_ (by assumption) ?_
          rotate_left
          · (intro w hSw; (try dsimp only at hSw); go_simp; try with_reducible rfl)
          try simp only [Act.put, List.setIfInBounds_toArray, List.set_cons_zero, List.set_cons_succ]
          refine held_call 9 (by kernel_rfl) rfl (fun K hK => ?_)
          go_simp
          skip
          refine hK.out _ _ ?_ (fun hHeld6 => ?_)
          · first | trivial | ((try dsimp only); (exact (n3.far (p := ⟨w.heap.size + 1, 0, none⟩) (fun e => hGX e.symm) _).cell 0 rfl))
          clear hK K hHeld5
          try simp only [Act.put, List.setIfInBounds_toArray, List.set_cons_zero, List.set_cons_succ]
          refine wpAnyH_done (by kernel_rfl) ?_ _
          have n4 := HW.out.2.2.2.2.2.1.fresh (HC2.out.2.1)
          have n5 := (n4.alloc (.cells #[.slice A1 y.length c1] 47)).grown hgr3 (fun e => own_ne_ty (HC2.out.2.2.1.row.alloc (.cells #[.slice A1 y.length c1] 47)) (n4.alloc _) (by decide) e)
          have n6 := (HC2.out.2.2.1.alloc (.cells #[.slice A1 y.length c1] 47)).push ho3 hgr3 ((HC2.out.1.base_le (by omega)).alloc _) HX.out.2.2.2.1 (fun g hg e => by have h1 := (HC2.out.1.lt g hg).1; have h2 := (HW.out.2.1.roots.lt g e).2; omega)
          have hb3 : Below w.heap.size w w3 := ((hbl.trans ((HW.out.2.2.2.2.2.2.2.1.mono hsz).trans (HC2.out.2.1.mono (by omega)))).alloc (by omega) _).grown hgr3 (by simp; omega) (fun g hg => (HW.out.2.1.row.lt g hg).1)
          have HZ := Lib.hid (And.intro n1 (And.intro n3 (And.intro n5 (And.intro n6 hb3)))); clear n1 n2 n3 n4 n5 n6 hb3 g0 g1 x0 x2 m1 m2 m3 f0 f1 f2 f3 f4 f5 ho3 hgr3 hat3
          go_wp2_with fail
          go_meet
          exact ⟨A3, A1, c3, c1, ⟨HZ.out.1.set_ 0 _, HZ.out.2.2.2.1.blk HZ.out.1 (by decide) (by decide) _ _, HZ.out.2.1.far (fun e => hGX e.symm) _, HZ.out.2.2.1.far (by simp) _⟩, HZ.out.2.2.2.2.setCell (by simp) _⟩
        · go_simp
          go_at_call 136; refine (cloneInt_any XA xc W.heap.size xh.length xh W.drew rfl HW.out.2.2.2.2.2.2.2.2.drew (Nat.le_refl _) (by have := HX.out.2.2.2.2.2.1; omega)).mono ?_; rintro e w1 ⟨A1, c1, rfl, ho1, hb1⟩; have hs1 := hb1.size; have f0 := (hb1.cell (p := ⟨w.heap.size + 1, 0, none⟩) hGW).trans g0; have f1 := (hb1.cell (p := ⟨wr.heap.size, 0, none⟩) d9).trans x0; have HC1 := Lib.hid (And.intro ho1 (undrew hb1)); clear ho1 hb1
          try (go_wp2_with fail)
          refine hK.out _ _ ?_ (fun hHeld1 => ?_)
          · first | trivial | ((try dsimp only); (exact f1))
          clear hK K hHeld0
          try simp only [Act.put, List.setIfInBounds_toArray, List.set_cons_zero, List.set_cons_succ]
          refine held_call2 1 5 (by kernel_rfl) rfl rfl (fun K hK => ?_) (fun K hK => ?_)
          · go_simp
            skip
            refine hK.out _ _ ?_ (fun hHeld2 => ?_)
            · first | trivial | ((try dsimp only); (exact f1))
            clear hK K hHeld1
            try simp only [Act.put, List.setIfInBounds_toArray, List.set_cons_zero, List.set_cons_succ]
            refine held_call 5 (by kernel_rfl) rfl (fun K hK => ?_)
            go_simp
            go_at_call 135; refine (deleteFuncInt_any A1 c1 W.heap.size 137 xh.length #[] (fun x => decide (x < 0)) xh w1 rfl HC1.out.1 (fun x hx => HX.out.2.2.2.2.1 x hx) egGraph1 (fun W' x _ _ _ => (graph1_any x W').mono fun e w' ⟨he, hw⟩ => ⟨he, by subst hw; exact Below.refl _ _⟩)).mono ?_; rintro e w2 ⟨rfl, ho2, hgr2⟩; rw [filter_neg, HX.out.2.2.1] at ho2; rw [filter_neg, HX.out.2.2.1]; have hb2 : Below W.heap.size W w2 := HC1.out.2.grown hgr2 hs1 (fun g hg => (HC1.out.1.lt g hg).1); have hs2 := hb2.size; have f2 := (hb2.cell (p := ⟨w.heap.size + 1, 0, none⟩) hGW).trans g0; have f3 := (hb2.cell (p := ⟨wr.heap.size, 0, none⟩) d9).trans x0; have f4 : (w2.alloc (.cells #[.slice A1 y.length c1] 47)).cell? ⟨w.heap.size + 1, 0, none⟩ = some (.slice HA k hc) := (World.cell?_alloc_lt _ _ _ (by simp; omega)).trans f2; have f5 : (w2.alloc (.cells #[.slice A1 y.length c1] 47)).cell? ⟨wr.heap.size, 0, none⟩ = some (.slice XA xh.length xc) := (World.cell?_alloc_lt _ _ _ (by simp; omega)).trans f3; have HC2 := Lib.hid (And.intro ho2 (And.intro hb2 (And.intro (HW.out.2.1.fresh hb2) (HW.out.1.fresh hb2)))); clear ho2 hgr2 hb2
            try (go_wp2_with fail)
            refine hK.out _ _ ?_ (fun hHeld3 => ?_)
            · first | trivial | ((try dsimp only); (exact f3))
            clear hK K hHeld2
            try simp only [Act.put, List.setIfInBounds_toArray, List.set_cons_zero, List.set_cons_succ]
            refine held_call 6 (by kernel_rfl) rfl (fun K hK => ?_)
            go_simp
            skip
            refine hK.out _ _ ?_ (fun hHeld4 => ?_)
            · first | trivial | ((try dsimp only); (exact f5))
            clear hK K hHeld3
            try simp only [Act.put, List.setIfInBounds_toArray, List.set_cons_zero, List.set_cons_succ]
            refine held_call 7 (by kernel_rfl) rfl (fun K hK => ?_)
            refine step_app (α := SlR) (n := k) (m := 1) (nm := k + 1) (r := [⟨A1, c1, y⟩]) (by rfl) (.tmp 17) (.tmp 22) _ (by rfl) w.heap.size 47 j0 _ 24 Try.underlying46 hj hy0 hy1 hy2 rfl (by decide) slr_one (by rfl) HW.out.2.2.2.1 (HC2.out.2.2.1.row.alloc _) (B := w2.heap.size + 1) (X := some ⟨w2.heap.size, 0, none⟩) (d := 1) (by rfl) (At.built w2 _ _ [(⟨A1, c1, y⟩ : SlR)] rfl (fun _ _ => trivial)) rfl rfl (by omega) (by simp only [maxLen]; omega) (by simp; omega) ?_; intro A3 c3 w3 ho3 hgr3 hat3; have n1 := (HC2.out.2.2.2.alloc (.cells #[.slice A1 y.length c1] 47)).grown hgr3 (fun e => own_ne_ty (HC2.out.2.2.1.row.alloc (.cells #[.slice A1 y.length c1] 47)) (HC2.out.2.2.2.alloc (.cells #[.slice A1 y.length c1] 47)) (by decide) e); have m1 := n1.frozen 0; have n2 := (HW.out.2.2.2.2.2.2.1.fresh HC2.out.2.1).alloc (.cells #[.slice A1 y.length c1] 47); have n3 := n2.grown hgr3 (fun e => own_ne_ty (HC2.out.2.2.1.row.alloc (.cells #[.slice A1 y.length c1] 47)) n2 (by decide) e); have m2 := n3.cell 0 (v := .slice XA xh.length xc) rfl; have m3 := n1.cell 0 (v := .slice HA k hc) rfl
            refine hK.out _ _ ?_ (fun hHeld5 => ?_)
            · first | trivial | ((try dsimp only); (exact m2))
            clear hK K hHeld4
            try simp only [Act.put, List.setIfInBounds_toArray, List.set_cons_zero, List.set_cons_succ]
            refine held_take (v := ?_) 8 rfl (by kernel_rfl) (by kernel_rfl) (by kernel_rfl) (fun _ _ _ h => h) (by rfl) ?_ (by assumption) ?_
            rotate_left
            · (intro w hSw; (try dsimp only at hSw); go_simp; try with_reducible rfl)
            try simp only [Act.put, List.setIfInBounds_toArray, List.set_cons_zero, List.set_cons_succ]
            refine held_call 9 (by kernel_rfl) rfl (fun K hK => ?_)
            go_simp
            skip
            refine hK.out _ _ ?_ (fun hHeld6 => ?_)
            · first | trivial | ((try dsimp only); (exact (n3.far (p := ⟨w.heap.size + 1, 0, none⟩) (fun e => hGX e.symm) _).cell 0 rfl))
            clear hK K hHeld5
            try simp only [Act.put, List.setIfInBounds_toArray, List.set_cons_zero, List.set_cons_succ]
            refine wpAnyH_done (by kernel_rfl) ?_ _
            have n4 := HW.out.2.2.2.2.2.1.fresh (HC2.out.2.1)
            have n5 := (n4.alloc (.cells #[.slice A1 y.length c1] 47)).grown hgr3 (fun e => own_ne_ty (HC2.out.2.2.1.row.alloc (.cells #[.slice A1 y.length c1] 47)) (n4.alloc _) (by decide) e)
            have n6 := (HC2.out.2.2.1.alloc (.cells #[.slice A1 y.length c1] 47)).push ho3 hgr3 ((HC2.out.1.base_le (by omega)).alloc _) HX.out.2.2.2.1 (fun g hg e => by have h1 := (HC2.out.1.lt g hg).1; have h2 := (HW.out.2.1.roots.lt g e).2; omega)
            have hb3 : Below w.heap.size w w3 := ((hbl.trans ((HW.out.2.2.2.2.2.2.2.1.mono hsz).trans (HC2.out.2.1.mono (by omega)))).alloc (by omega) _).grown hgr3 (by simp; omega) (fun g hg => (HW.out.2.1.row.lt g hg).1)
            have HZ := Lib.hid (And.intro n1 (And.intro n3 (And.intro n5 (And.intro n6 hb3)))); clear n1 n2 n3 n4 n5 n6 hb3 g0 g1 x0 x2 m1 m2 m3 f0 f1 f2 f3 f4 f5 ho3 hgr3 hat3
            go_wp2_with fail
            go_meet
            exact ⟨A3, A1, c3, c1, ⟨HZ.out.1.set_ 0 _, HZ.out.2.2.2.1.blk HZ.out.1 (by decide) (by decide) _ _, HZ.out.2.1.far (fun e => hGX e.symm) _, HZ.out.2.2.1.far (by simp) _⟩, HZ.out.2.2.2.2.setCell (by simp) _⟩
          · go_simp
            go_at_call 135; refine (deleteFuncInt_any A1 c1 W.heap.size 137 xh.length #[] (fun x => decide (x < 0)) xh w1 rfl HC1.out.1 (fun x hx => HX.out.2.2.2.2.1 x hx) egGraph1 (fun W' x _ _ _ => (graph1_any x W').mono fun e w' ⟨he, hw⟩ => ⟨he, by subst hw; exact Below.refl _ _⟩)).mono ?_; rintro e w2 ⟨rfl, ho2, hgr2⟩; rw [filter_neg, HX.out.2.2.1] at ho2; rw [filter_neg, HX.out.2.2.1]; have hb2 : Below W.heap.size W w2 := HC1.out.2.grown hgr2 hs1 (fun g hg => (HC1.out.1.lt g hg).1); have hs2 := hb2.size; have f2 := (hb2.cell (p := ⟨w.heap.size + 1, 0, none⟩) hGW).trans g0; have f3 := (hb2.cell (p := ⟨wr.heap.size, 0, none⟩) d9).trans x0; have f4 : (w2.alloc (.cells #[.slice A1 y.length c1] 47)).cell? ⟨w.heap.size + 1, 0, none⟩ = some (.slice HA k hc) := (World.cell?_alloc_lt _ _ _ (by simp; omega)).trans f2; have f5 : (w2.alloc (.cells #[.slice A1 y.length c1] 47)).cell? ⟨wr.heap.size, 0, none⟩ = some (.slice XA xh.length xc) := (World.cell?_alloc_lt _ _ _ (by simp; omega)).trans f3; have HC2 := Lib.hid (And.intro ho2 (And.intro hb2 (And.intro (HW.out.2.1.fresh hb2) (HW.out.1.fresh hb2)))); clear ho2 hgr2 hb2
            try (go_wp2_with fail)
            refine hK.out _ _ ?_ (fun hHeld2 => ?_)
            · first | trivial | ((try dsimp only); (exact f3))
            clear hK K hHeld1
            try simp only [Act.put, List.setIfInBounds_toArray, List.set_cons_zero, List.set_cons_succ]
            refine held_call2 1 6 (by kernel_rfl) rfl rfl (fun K hK => ?_) (fun K hK => ?_)
            · go_simp
              skip
              refine hK.out _ _ ?_ (fun hHeld3 => ?_)
              · first | trivial | ((try dsimp only); (exact f3))
              clear hK K hHeld2
              try simp only [Act.put, List.setIfInBounds_toArray, List.set_cons_zero, List.set_cons_succ]
              refine held_call 6 (by kernel_rfl) rfl (fun K hK => ?_)
              go_simp
              skip
              refine hK.out _ _ ?_ (fun hHeld4 => ?_)
              · first | trivial | ((try dsimp only); (exact f5))
              clear hK K hHeld3
              try simp only [Act.put, List.setIfInBounds_toArray, List.set_cons_zero, List.set_cons_succ]
              refine held_call 7 (by kernel_rfl) rfl (fun K hK => ?_)
              refine step_app (α := SlR) (n := k) (m := 1) (nm := k + 1) (r := [⟨A1, c1, y⟩]) (by rfl) (.tmp 17) (.tmp 22) _ (by rfl) w.heap.size 47 j0 _ 24 Try.underlying46 hj hy0 hy1 hy2 rfl (by decide) slr_one (by rfl) HW.out.2.2.2.1 (HC2.out.2.2.1.row.alloc _) (B := w2.heap.size + 1) (X := some ⟨w2.heap.size, 0, none⟩) (d := 1) (by rfl) (At.built w2 _ _ [(⟨A1, c1, y⟩ : SlR)] rfl (fun _ _ => trivial)) rfl rfl (by omega) (by simp only [maxLen]; omega) (by simp; omega) ?_; intro A3 c3 w3 ho3 hgr3 hat3; have n1 := (HC2.out.2.2.2.alloc (.cells #[.slice A1 y.length c1] 47)).grown hgr3 (fun e => own_ne_ty (HC2.out.2.2.1.row.alloc (.cells #[.slice A1 y.length c1] 47)) (HC2.out.2.2.2.alloc (.cells #[.slice A1 y.length c1] 47)) (by decide) e); have m1 := n1.frozen 0; have n2 := (HW.out.2.2.2.2.2.2.1.fresh HC2.out.2.1).alloc (.cells #[.slice A1 y.length c1] 47); have n3 := n2.grown hgr3 (fun e => own_ne_ty (HC2.out.2.2.1.row.alloc (.cells #[.slice A1 y.length c1] 47)) n2 (by decide) e); have m2 := n3.cell 0 (v := .slice XA xh.length xc) rfl; have m3 := n1.cell 0 (v := .slice HA k hc) rfl
              refine hK.out _ _ ?_ (fun hHeld5 => ?_)
              · first | trivial | ((try dsimp only); (exact m2))
              clear hK K hHeld4
              try simp only [Act.put, List.setIfInBounds_toArray, List.set_cons_zero, List.set_cons_succ]
              refine held_take (v := ?_) 8 rfl (by kernel_rfl) (by kernel_rfl) (by kernel_rfl) (fun _ _ _ h => h) (by rfl) ?_ (by assumption) ?_
              rotate_left
              · (intro w hSw; (try dsimp only at hSw); go_simp; try with_reducible rfl)
              try simp only [Act.put, List.setIfInBounds_toArray, List.set_cons_zero, List.set_cons_succ]
              refine held_call 9 (by kernel_rfl) rfl (fun K hK => ?_)
              go_simp
              skip
              refine hK.out _ _ ?_ (fun hHeld6 => ?_)
              · first | trivial | ((try dsimp only); (exact (n3.far (p := ⟨w.heap.size + 1, 0, none⟩) (fun e => hGX e.symm) _).cell 0 rfl))
              clear hK K hHeld5
              try simp only [Act.put, List.setIfInBounds_toArray, List.set_cons_zero, List.set_cons_succ]
              refine wpAnyH_done (by kernel_rfl) ?_ _
              have n4 := HW.out.2.2.2.2.2.1.fresh (HC2.out.2.1)
              have n5 := (n4.alloc (.cells #[.slice A1 y.length c1] 47)).grown hgr3 (fun e => own_ne_ty (HC2.out.2.2.1.row.alloc (.cells #[.slice A1 y.length c1] 47)) (n4.alloc _) (by decide) e)
              have n6 := (HC2.out.2.2.1.alloc (.cells #[.slice A1 y.length c1] 47)).push ho3 hgr3 ((HC2.out.1.base_le (by omega)).alloc _) HX.out.2.2.2.1 (fun g hg e => by have h1 := (HC2.out.1.lt g hg).1; have h2 := (HW.out.2.1.roots.lt g e).2; omega)
              have hb3 : Below w.heap.size w w3 := ((hbl.trans ((HW.out.2.2.2.2.2.2.2.1.mono hsz).trans (HC2.out.2.1.mono (by omega)))).alloc (by omega) _).grown hgr3 (by simp; omega) (fun g hg => (HW.out.2.1.row.lt g hg).1)
              have HZ := Lib.hid (And.intro n1 (And.intro n3 (And.intro n5 (And.intro n6 hb3)))); clear n1 n2 n3 n4 n5 n6 hb3 g0 g1 x0 x2 m1 m2 m3 f0 f1 f2 f3 f4 f5 ho3 hgr3 hat3
              go_wp2_with fail
              go_meet
              exact ⟨A3, A1, c3, c1, ⟨HZ.out.1.set_ 0 _, HZ.out.2.2.2.1.blk HZ.out.1 (by decide) (by decide) _ _, HZ.out.2.1.far (fun e => hGX e.symm) _, HZ.out.2.2.1.far (by simp) _⟩, HZ.out.2.2.2.2.setCell (by simp) _⟩
            · go_simp
              skip
              refine hK.out _ _ ?_ (fun hHeld3 => ?_)
              · first | trivial | ((try dsimp only); (exact f5))
              clear hK K hHeld2
              try simp only [Act.put, List.setIfInBounds_toArray, List.set_cons_zero, List.set_cons_succ]
              refine held_call 1 (by kernel_rfl) rfl (fun K hK => ?_)
              go_simp
              skip
              refine hK.out _ _ ?_ (fun hHeld4 => ?_)
              · first | trivial | ((try dsimp only); (exact f5))
              clear hK K hHeld3
              try simp only [Act.put, List.setIfInBounds_toArray, List.set_cons_zero, List.set_cons_succ]
              refine held_call 7 (by kernel_rfl) rfl (fun K hK => ?_)
              refine step_app (α := SlR) (n := k) (m := 1) (nm := k + 1) (r := [⟨A1, c1, y⟩]) (by rfl) (.tmp 17) (.tmp 22) _ (by rfl) w.heap.size 47 j0 _ 24 Try.underlying46 hj hy0 hy1 hy2 rfl (by decide) slr_one (by rfl) HW.out.2.2.2.1 (HC2.out.2.2.1.row.alloc _) (B := w2.heap.size + 1) (X := some ⟨w2.heap.size, 0, none⟩) (d := 1) (by rfl) (At.built w2 _ _ [(⟨A1, c1, y⟩ : SlR)] rfl (fun _ _ => trivial)) rfl rfl (by omega) (by simp only [maxLen]; omega) (by simp; omega) ?_; intro A3 c3 w3 ho3 hgr3 hat3; have n1 := (HC2.out.2.2.2.alloc (.cells #[.slice A1 y.length c1] 47)).grown hgr3 (fun e => own_ne_ty (HC2.out.2.2.1.row.alloc (.cells #[.slice A1 y.length c1] 47)) (HC2.out.2.2.2.alloc (.cells #[.slice A1 y.length c1] 47)) (by decide) e); have m1 := n1.frozen 0; have n2 := (HW.out.2.2.2.2.2.2.1.fresh HC2.out.2.1).alloc (.cells #[.slice A1 y.length c1] 47); have n3 := n2.grown hgr3 (fun e => own_ne_ty (HC2.out.2.2.1.row.alloc (.cells #[.slice A1 y.length c1] 47)) n2 (by decide) e); have m2 := n3.cell 0 (v := .slice XA xh.length xc) rfl; have m3 := n1.cell 0 (v := .slice HA k hc) rfl
              refine hK.out _ _ ?_ (fun hHeld5 => ?_)
              · first | trivial | ((try dsimp only); (exact m2))
              clear hK K hHeld4
              try simp only [Act.put, List.setIfInBounds_toArray, List.set_cons_zero, List.set_cons_succ]
              refine held_take (v := ?_) 8 rfl (by kernel_rfl) (by kernel_rfl) (by kernel_rfl) (fun _ _ _ h => h) (by rfl) ?_ (by assumption) ?_
              rotate_left
              · (intro w hSw; (try dsimp only at hSw); go_simp; try with_reducible rfl)
              try simp only [Act.put, List.setIfInBounds_toArray, List.set_cons_zero, List.set_cons_succ]
              refine held_call 9 (by kernel_rfl) rfl (fun K hK => ?_)
              go_simp
              skip
              refine hK.out _ _ ?_ (fun hHeld6 => ?_)
              · first | trivial | ((try dsimp only); (exact (n3.far (p := ⟨w.heap.size + 1, 0, none⟩) (fun e => hGX e.symm) _).cell 0 rfl))
              clear hK K hHeld5
              try simp only [Act.put, List.setIfInBounds_toArray, List.set_cons_zero, List.set_cons_succ]
              refine wpAnyH_done (by kernel_rfl) ?_ _
              have n4 := HW.out.2.2.2.2.2.1.fresh (HC2.out.2.1)
              have n5 := (n4.alloc (.cells #[.slice A1 y.length c1] 47)).grown hgr3 (fun e => own_ne_ty (HC2.out.2.2.1.row.alloc (.cells #[.slice A1 y.length c1] 47)) (n4.alloc _) (by decide) e)
              have n6 := (HC2.out.2.2.1.alloc (.cells #[.slice A1 y.length c1] 47)).push ho3 hgr3 ((HC2.out.1.base_le (by omega)).alloc _) HX.out.2.2.2.1 (fun g hg e => by have h1 := (HC2.out.1.lt g hg).1; have h2 := (HW.out.2.1.roots.lt g e).2; omega)
              have hb3 : Below w.heap.size w w3 := ((hbl.trans ((HW.out.2.2.2.2.2.2.2.1.mono hsz).trans (HC2.out.2.1.mono (by omega)))).alloc (by omega) _).grown hgr3 (by simp; omega) (fun g hg => (HW.out.2.1.row.lt g hg).1)
              have HZ := Lib.hid (And.intro n1 (And.intro n3 (And.intro n5 (And.intro n6 hb3)))); clear n1 n2 n3 n4 n5 n6 hb3 g0 g1 x0 x2 m1 m2 m3 f0 f1 f2 f3 f4 f5 ho3 hgr3 hat3
              go_wp2_with fail
              go_meet
              exact ⟨A3, A1, c3, c1, ⟨HZ.out.1.set_ 0 _, HZ.out.2.2.2.1.blk HZ.out.1 (by decide) (by decide) _ _, HZ.out.2.1.far (fun e => hGX e.symm) _, HZ.out.2.2.1.far (by simp) _⟩, HZ.out.2.2.2.2.setCell (by simp) _⟩
      case rest =>
        obtain ⟨A3, A1, c3, c1, hV, hbV⟩ := hcut
        clear g0 g1 x0 x2
        have hsV := hbV.size
        have hVX := hV.out.2.2.1.lt
        have hVG := hV.out.1.lt
        have g1 := hV.out.1.cell 1 (v := .slice RA m rc) rfl
        have g0 := hV.out.1.cell 0 (v := .slice A3 (k + 1) c3) rfl
        have x2 := hV.out.2.2.1.cell 2 (v := .bool xb) rfl
        have hrl := HW.out.2.2.2.2.1
        have hhl : (hs' ++ [(⟨A1, c1, y⟩ : SlR)]).length = k + 1 := by rw [List.length_append, HW.out.2.2.2.1]; rfl
        have hhm : (hs' ++ [(⟨A1, c1, y⟩ : SlR)]).map SlR.l = gHas (s.take (k + 1)) := by rw [List.map_append, HW.out.2.2.1, HX.out.1]; rfl
        have HR := Lib.hid (And.intro hrl (And.intro hhl (And.intro hhm HX.out.2.1))); clear hrl hhl hhm HW
        cases xb with
        | false =>
          go_wp2_with fail
          go_roundg (N - (k + 1))
          case measure => omega
          case rel => exact ⟨k + 1, m, by omega, rfl, by go_num, by omega, ⟨⟨A3, RA, c3, rc, _, hV.out.1, by rw [HR.out.2.2.2]; simpa using hV.out.2.1, HR.out.2.2.1, HR.out.2.1, by rw [HR.out.2.2.2]; simpa using HR.out.1⟩, hV.out.2.2.2⟩, hbV⟩
        | true =>
          go_wp2_with (at_builtin; go_must (refine wpList_app (α := Int) (n := m) (m := 1) (B := wc.heap.size + 1) (r := [(k : Int)]) rfl (.tmp 28) (.tmp 30) _ rfl w.heap.size 3 i0 _ 8 Try.underlying47 hi hz0 hz1 hz2 rfl (by decide) int_one (by rfl) HR.out.1 (hV.out.2.1.roots.alloc _) (by rfl) (At.built wc _ _ [(k : Int)] rfl (by intro z hz; simp at hz; subst hz; exact (by unfold I64; omega : I64 (k : Int)))) rfl (by omega) (by simp only [maxLen]; omega) (by simp; omega) ?_); intro A5 c5 w5 ho5 hgr5 hat5; have p1 := (hV.out.1.alloc (.cells #[.int .i64 (k : Int)] 3)).grown hgr5 (fun e => own_ne_ty (hV.out.2.1.roots.alloc (.cells #[.int .i64 (k : Int)] 3)) (hV.out.1.alloc (.cells #[.int .i64 (k : Int)] 3)) (by decide) e); have p2 := (hV.out.2.2.2.alloc (.cells #[.int .i64 (k : Int)] 3)).grown hgr5 (fun e => own_ne_ty (hV.out.2.1.roots.alloc (.cells #[.int .i64 (k : Int)] 3)) (hV.out.2.2.2.alloc (.cells #[.int .i64 (k : Int)] 3)) (by decide) e); have p3 := (hV.out.2.1.alloc (.cells #[.int .i64 (k : Int)] 3)).root ho5 hgr5 hat5; have p4 : Below w.heap.size w w5 := (hbV.alloc (by omega) _).grown hgr5 (by simp; omega) (fun g hg => (hV.out.2.1.roots.lt g hg).1); have s5 := hgr5.size; have q1 := p1.cell 1 (v := .slice RA m rc) rfl; have z1 := p1.frozen 1; have HP := Lib.hid (And.intro p1 (And.intro p2 (And.intro p3 p4))); clear p1 p2 p3 p4 ho5 hgr5 hat5)
          go_roundg (N - (k + 1))
          case measure => omega
          case rel =>
            refine ⟨k + 1, m + 1, by omega, rfl, by go_num, by omega, ⟨⟨A3, A5, c3, c5, _, HP.out.1.set_ 1 _, ?_, HR.out.2.2.1, HR.out.2.1, by rw [HR.out.2.2.2]; simpa using HR.out.1⟩, HP.out.2.1.far (by simp) _⟩, HP.out.2.2.2.setCell (by simp) _⟩
            rw [HR.out.2.2.2]
            simpa using HP.out.2.2.1.blk HP.out.1 (by decide) (by decide) 1 _
    · obtain rfl : k = N := by omega
      have hkk := hkeep.out
      have HKK := Lib.hid hkk; clear hkk hkeep
      obtain ⟨⟨HA, RA, hc, rc, hs', b1, b2, b3, b4, b5⟩, b6⟩ := HKK.out
      have g0 := b1.cell 0 (v := .slice HA k hc) rfl
      have g1 := b1.cell 1 (v := .slice RA m rc) rfl
      have r0 := b6.cell 0 (v := .slice none 0 0) rfl
      have r1 := b6.cell 1 (v := .slice none 0 0) rfl
      have z0 := b6.frozen 0
      have z1 := b6.frozen 1
      have HB := Lib.hid (And.intro b2 (And.intro b3 (And.intro b4 (And.intro b5 b6)))); clear b1 b2 b3 b4 b5 b6 HKK
      go_wp2_with fail
      refine bodyPost_ret (results_cell1 rfl _ _ w.heap.size _ _ _ rfl ((HB.out.2.2.2.2.set_ 0 (.slice HA k hc)).set_ 1 (.slice RA m rc)) Try.underlying49 rfl (by kernel_rfl)) rfl ?_
      obtain ⟨e1, e2, e3, e4, e5⟩ := HB.out
      have hsl : s.take k = s := List.take_of_length_le (by have := H.out.2.2.2.2.1; omega)
      rw [hsl] at e1 e2 e4
      have e1' : GrS ((wr.setCell ⟨w.heap.size, 0, none⟩ (.slice HA k hc)).setCell ⟨w.heap.size, 1, none⟩ (.slice RA m rc)) w.heap.size HA hc RA rc hs' (gRoots s) := (e1.blk e5 (by decide) (by decide) _ _).blk (e5.set_ 0 _) (by decide) (by decide) _ _
      have e6 := e1'.at_
      rw [e2] at e6
      exact ⟨HA, RA, hc, rc, m, by rw [H.out.2.2.2.2.1]; rfl, e6, e1'.roots, e4, (hbl.setCell (Nat.le_refl _) _).setCell (Nat.le_refl _) _⟩

end Go.Proofs.Ytpkccpegdpodoaa

/- Dominators by rounds (each one's nearest keeper): what holds from step to step, and what the end says. No program is named here. -/
namespace Go.Proofs.Ytpkccpegdpodoaa

/-- z lies on the chain from a: a itself, its d, and so on; -2: everything lies there; -1: nothing -/
inductive Ch (d : List Int) : Int → Nat → Prop
  | top {z : Nat} : Ch d (-2) z
  | here {n : Nat} : Ch d (n : Int) n
  | up {n z : Nat} {b : Int} : d[n]? = some b → Ch d b z → Ch d (n : Int) z

theorem Ch.nobody {d : List Int} {z : Nat} (h : Ch d (-1) z) : False := by
  generalize e : (-1 : Int) = a at h
  cases h with
  | top => cases e
  | here => omega
  | up => omega
theorem Ch.cases_ {d : List Int} {n z : Nat} (h : Ch d (n : Int) z) : z = n ∨ ∃ b, d[n]? = some b ∧ Ch d b z := by
  generalize e : (n : Int) = a at h
  cases h with
  | top => omega
  | here => left; omega
  | @up m z b h1 h2 =>
    obtain rfl : n = m := by omega
    exact .inr ⟨b, h1, h2⟩

/-- the graph as the rounds see it: V: who is needed; fr m x: x (or nobody, -1) has m; pl: the place in the order -/
structure Gf (N : Nat) (V : Nat → Prop) (fr : Nat → Int → Prop) (pl : Nat → Nat) : Prop where
  lt : ∀ m, V m → m < N
  src : ∀ m x, V m → fr m x → x = -1 ∨ ∃ k : Nat, x = (k : Int) ∧ V k
  inj : ∀ a b, V a → V b → pl a = pl b → a = b
  low : ∀ m, V m → fr m (-1) ∨ ∃ p : Nat, V p ∧ fr m (p : Int) ∧ pl p < pl m

/-- a place that is told: nobody, or one whose keeper is told -/
def Ok (V : Nat → Prop) (d : List Int) (a : Int) : Prop := a = -1 ∨ ∃ n : Nat, a = (n : Int) ∧ V n ∧ d[n]? ≠ some (-2)

structure Dv (N : Nat) (V : Nat → Prop) (fr : Nat → Int → Prop) (pl : Nat → Nat) (SD : Nat → Nat → Prop) (d : List Int) (i : Nat) : Prop where
  len : d.length = N
  rng : ∀ m b, V m → d[m]? = some b → b = -2 ∨ (Ok V d b ∧ ∀ n : Nat, b = (n : Int) → pl n < pl m)
  out : ∀ m, ¬ V m → m < N → d[m]? = some (-2)
  done : ∀ m, V m → pl m < i → d[m]? ≠ some (-2)
  pre : ∀ m p, V m → V p → d[m]? ≠ some (-2) → pl p < pl m → d[p]? ≠ some (-2)
  B : ∀ m b z, V m → d[m]? = some b → (∀ x, fr m x → Ch d x z) → Ch d b z
  C : ∀ m b p z, V m → d[m]? = some b → b ≠ -2 → fr m ((p : Nat) : Int) → V p → pl p < pl m → Ch d b z → (pl m < i ∨ i ≤ pl z) → Ch d (p : Int) z
  S : ∀ m b z, V m → d[m]? = some b → SD z m → Ch d b z

section
variable {N : Nat} {V : Nat → Prop} {fr : Nat → Int → Prop} {pl : Nat → Nat} {SD : Nat → Nat → Prop} {d : List Int} {i : Nat}

theorem Dv.get (h : Dv N V fr pl SD d i) {m : Nat} (hm : m < N) : ∃ b, d[m]? = some b := ⟨_, List.getElem?_eq_getElem (by rw [h.len]; exact hm)⟩

/-- on a chain from one that is told: all are told, needed, and lie no further than it -/
theorem Dv.chain (h : Dv N V fr pl SD d i) {a : Int} {z : Nat} (hz : Ch d a z) (ha : Ok V d a) : V z ∧ d[z]? ≠ some (-2) ∧ ∀ n : Nat, a = (n : Int) → pl z ≤ pl n := by
  induction hz with
  | top => rcases ha with e | ⟨n, e, -⟩ <;> omega
  | @here n =>
    rcases ha with e | ⟨m, e, h1, h2⟩
    · omega
    · obtain rfl : n = m := by omega
      exact ⟨h1, h2, fun k hk => by obtain rfl : n = k := by omega
                                    exact Nat.le_refl _⟩
  | @up n z b h1 h2 ih =>
    rcases ha with e | ⟨m, e, hv, hd⟩
    · omega
    · obtain rfl : n = m := by omega
      rcases h.rng n b hv h1 with e2 | ⟨hok, hlt⟩
      · subst e2; exact absurd h1 hd
      · obtain ⟨i1, i2, i3⟩ := ih hok
        refine ⟨i1, i2, fun k hk => ?_⟩
        obtain rfl : n = k := by omega
        rcases hok with e3 | ⟨c, e3, -⟩
        · subst e3; exact absurd h2 (fun hh => hh.nobody)
        · exact Nat.le_of_lt (Nat.lt_of_le_of_lt (i3 c e3) (hlt c e3))
theorem Dv.ok_up (h : Dv N V fr pl SD d i) {n : Nat} {b : Int} (hb : d[n]? = some b) (hv : V n) (hd : d[n]? ≠ some (-2)) : Ok V d b ∧ ∀ c : Nat, b = (c : Int) → pl c < pl n := by
  rcases h.rng n b hv hb with e | h
  · subst e; exact absurd hb hd
  · exact h

/-- the nearest that both have: one step -/
theorem Dv.meet_step (h : Dv N V fr pl SD d i) {a c : Nat} {b : Int} (hc : Ok V d (c : Int)) (hlt : pl c < pl a) (hb : d[a]? = some b) (z : Nat) : (Ch d (a : Int) z ∧ Ch d (c : Int) z) ↔ (Ch d b z ∧ Ch d (c : Int) z) := by
  constructor
  · rintro ⟨h1, h2⟩
    refine ⟨?_, h2⟩
    rcases h1.cases_ with rfl | ⟨b', hb', h3⟩
    · have := (h.chain h2 hc).2.2 c rfl; omega
    · rw [hb] at hb'; injection hb' with hb'; rw [hb']; exact h3
  · rintro ⟨h1, h2⟩
    exact ⟨.up hb h1, h2⟩

/-- what a step does to the chains -/
theorem ch_set {n : Nat} {a : Int} (hn : n < d.length) {x : Int} {z : Nat} (hno : ¬ Ch d x n) : Ch (d.set n a) x z ↔ Ch d x z := by
  constructor
  · intro h
    induction h with
    | top => exact .top
    | here => exact .here
    | @up m z b h1 h2 ih =>
      have hmn : m ≠ n := fun e => hno (by subst e; exact .here)
      rw [List.getElem?_set_ne (Ne.symm hmn)] at h1
      exact .up h1 (ih (fun hh => hno (.up h1 hh)))
  · intro h
    induction h with
    | top => exact .top
    | here => exact .here
    | @up m z b h1 h2 ih =>
      have hmn : m ≠ n := fun e => hno (by subst e; exact .here)
      exact .up (by rw [List.getElem?_set_ne (Ne.symm hmn)]; exact h1) (ih (fun hh => hno (.up h1 hh)))


/-- chains behind a store: monotone, if the new one's chain lies in the old one's -/
theorem ch_mono {n : Nat} {a b : Int} (hn : n < d.length) (hb : d[n]? = some b) (hl : ∀ z, Ch d a z → Ch d b z) {x : Int} {z : Nat} (h : Ch (d.set n a) x z) : Ch d x z := by
  induction h with
  | top => exact .top
  | here => exact .here
  | @up m z c h1 h2 ih =>
    by_cases e : m = n
    · subst e
      rw [List.getElem?_set_self hn] at h1
      injection h1 with h1
      subst h1
      exact .up hb (hl _ ih)
    · rw [List.getElem?_set_ne (Ne.symm e)] at h1
      exact .up h1 ih
theorem ch_left {n : Nat} {a b : Int} (hn : n < d.length) (hb : d[n]? = some b) {x : Int} {z : Nat} (h : Ch d x z) : Ch (d.set n a) x z ∨ (Ch d x n ∧ Ch d b z) := by
  induction h with
  | top => exact .inl .top
  | here => exact .inl .here
  | @up m z c h1 h2 ih =>
    by_cases e : m = n
    · subst e
      rw [hb] at h1; injection h1 with h1; subst h1
      exact .inr ⟨.here, h2⟩
    · rcases ih with h | ⟨h3, h4⟩
      · exact .inl (.up (by rw [List.getElem?_set_ne (Ne.symm e)]; exact h1) h)
      · exact .inr ⟨.up h1 h3, h4⟩
theorem ch_self {n : Nat} {a : Int} (hn : n < d.length) {x : Int} (h : Ch d x n) : Ch (d.set n a) x n := by
  generalize e : n = z at h
  induction h with
  | top => exact .top
  | here => exact .here
  | @up m z c h1 h2 ih =>
    subst e
    by_cases e : m = n
    · subst e; exact .here
    · exact .up (by rw [List.getElem?_set_ne (Ne.symm e)]; exact h1) (ih rfl)
theorem Ch.trans_ {x a : Int} {n z : Nat} (h : Ch d x n) (hn : d[n]? = some a) (hz : Ch d a z) : Ch d x z := by
  generalize e : n = k at h
  induction h with
  | top => exact .top
  | here => subst e; exact .up hn hz
  | @up m k c h1 h2 ih => exact .up h1 (ih e)
theorem Dv.ch_above (h : Dv N V fr pl SD d i) {n : Nat} {a : Int} (hn : n < d.length) {x : Int} {z : Nat} (hx : Ok V d x) (hxn : Ch d x n) (hlt : pl z < pl n) (hz : Ch (d.set n a) x z) : Ch (d.set n a) a z := by
  induction hz with
  | top => rcases hx with e | ⟨m, e, -⟩ <;> omega
  | @here m =>
    have := (h.chain hxn hx).2.2 m rfl
    omega
  | @up m z c h1 h2 ih =>
    by_cases e : m = n
    · subst e
      rw [List.getElem?_set_self hn] at h1
      injection h1 with h1
      subst h1
      exact h2
    · rw [List.getElem?_set_ne (Ne.symm e)] at h1
      rcases hx with e2 | ⟨k, e2, hv, hd⟩
      · omega
      · obtain rfl : m = k := by omega
        rcases hxn.cases_ with e3 | ⟨c', h3, h4⟩
        · exact absurd e3.symm e
        · rw [h1] at h3; injection h3 with h3; subst h3
          exact ih (h.ok_up h1 hv hd).1 h4 hlt

/-- A STEP: n is told anew -/
theorem Dv.step (g : Gf N V fr pl) (hSD : ∀ n z, V n → SD z n → ∀ x, fr n x → ∃ k : Nat, x = (k : Int) ∧ (z = k ∨ SD z k)) (h : Dv N V fr pl SD d i) {n : Nat} {a b : Int} (hv : V n) (hi : pl n = i) (hb : d[n]? = some b)
    (ha : Ok V d a) (hlt : ∀ c : Nat, a = (c : Int) → pl c < pl n) (hm : ∀ z, Ch d a z ↔ ∀ x, fr n x → Ch d x z) : Dv N V fr pl SD (d.set n a) (i + 1) := by
  have hn : n < d.length := by rw [h.len]; exact g.lt n hv
  have hl : ∀ z, Ch d a z → Ch d b z := fun z hz => h.B n b z hv hb ((hm z).1 hz)
  have hself : (d.set n a)[n]? = some a := List.getElem?_set_self hn
  have hoth : ∀ m, m ≠ n → (d.set n a)[m]? = d[m]? := fun m e => List.getElem?_set_ne (Ne.symm e)
  have ha2 : a ≠ -2 := by rcases ha with e | ⟨c, e, -⟩ <;> omega
  have hano : ¬ Ch d a n := fun hh => by
    rcases ha with e | ⟨c, e, hc1, hc2⟩
    · subst e; exact hh.nobody
    · subst e
      have := (h.chain hh (.inr ⟨c, rfl, hc1, hc2⟩)).2.2 c rfl
      have := hlt c rfl
      omega
  have L1 : ∀ {x : Int} {z : Nat}, Ch (d.set n a) x z → Ch d x z := fun hh => ch_mono hn hb hl hh
  have L5 : ∀ {z : Nat}, Ch d a z → Ch (d.set n a) a z := fun hh => (ch_set hn hano).2 hh
  have hno : ∀ {x : Nat}, V x → d[x]? ≠ some (-2) → pl x < pl n → ¬ Ch d (x : Int) n := fun hx hd hp hh => by
    have := (h.chain hh (.inr ⟨_, rfl, hx, hd⟩)).2.2 _ rfl
    omega
  have habove : ∀ {c : Int} {z : Nat}, Ok V d c → Ch d c n → Ch d b z → pl z < pl n := fun hc hcn hz => by
    have h1 := (h.chain hcn hc).2.1
    obtain ⟨h2, h3⟩ := h.ok_up hb hv h1
    rcases h2 with e | ⟨c', e, hc1, hc2⟩
    · subst e; exact absurd hz (fun hh => hh.nobody)
    · subst e
      have := (h.chain hz (.inr ⟨c', rfl, hc1, hc2⟩)).2.2 c' rfl
      have := h3 c' rfl
      omega
  have okb : ∀ {m : Nat} {b' : Int}, V m → d[m]? = some b' → b' ≠ -2 → Ok V d b' ∧ ∀ c : Nat, b' = (c : Int) → pl c < pl m := fun hm hb' hne => by
    rcases h.rng _ _ hm hb' with e | hh
    · exact absurd e hne
    · exact hh
  have okp : ∀ {m p : Nat} {b' : Int}, V m → d[m]? = some b' → b' ≠ -2 → V p → pl p < pl m → Ok V d (p : Int) := fun {m p b'} hm hb' hne hp hlt => .inr ⟨p, rfl, hp, h.pre m p hm hp (fun e => hne (by rw [hb'] at e; injection e)) hlt⟩
  refine ⟨by rw [List.length_set]; exact h.len, fun m b' hvm hb' => ?_, fun m hvm hmN => ?_, fun m hvm hpm => ?_, fun m p hvm hvp hdm hpm => ?_, fun m b' z hvm hb' hx => ?_, fun m b' p z hvm hb' hne hfr hvp hpl hz hcase => ?_, ?_⟩
  · -- rng
    have lift : ∀ c : Int, Ok V d c → Ok V (d.set n a) c := fun c hc => by
      rcases hc with e | ⟨k, e, h1, h2⟩
      · exact .inl e
      · refine .inr ⟨k, e, h1, ?_⟩
        by_cases e2 : k = n
        · subst e2; rw [hself]; intro e3; injection e3 with e3; exact ha2 e3
        · rw [hoth k e2]; exact h2
    by_cases e : m = n
    · subst e
      rw [hself] at hb'; injection hb' with hb'; subst hb'
      exact .inr ⟨lift _ ha, hlt⟩
    · rw [hoth m e] at hb'
      rcases h.rng m b' hvm hb' with e2 | ⟨h1, h2⟩
      · exact .inl e2
      · exact .inr ⟨lift _ h1, h2⟩
  · rw [hoth m (fun e => hvm (by rw [e]; exact hv))]; exact h.out m hvm hmN
  · by_cases e : m = n
    · subst e; rw [hself]; intro e3; injection e3 with e3; exact ha2 e3
    · rw [hoth m e]
      exact h.done m hvm (by have : pl m ≠ pl n := fun e2 => e (g.inj _ _ hvm hv e2)
                             omega)
  · by_cases e2 : p = n
    · subst e2; rw [hself]; intro e3; injection e3 with e3; exact ha2 e3
    · rw [hoth p e2]
      by_cases e : m = n
      · subst e; exact h.done p hvp (by omega)
      · rw [hoth m e] at hdm; exact h.pre m p hvm hvp hdm hpm
  · -- B
    by_cases e : m = n
    · subst e
      rw [hself] at hb'; injection hb' with hb'; subst hb'
      exact L5 ((hm z).2 fun x hfx => L1 (hx x hfx))
    · rw [hoth m e] at hb'
      rcases ch_left (a := a) hn hb (h.B m b' z hvm hb' fun x hfx => L1 (hx x hfx)) with hh | ⟨h1, h2⟩
      · exact hh
      by_cases hb2 : b' = -2
      · subst hb2; exact .top
      obtain ⟨hok, -⟩ := okb hvm hb' hb2
      have hzn := habove hok h1 h2
      rcases g.low m hvm with h0 | ⟨p, hp, hfp, hlp⟩
      · exact absurd (hx _ h0) (fun hh => hh.nobody)
      have hpn : Ch d (p : Int) n := h.C m b' p n hvm hb' hb2 hfp hp hlp h1 (.inr (by omega))
      have haz := h.ch_above hn (okp hvm hb' hb2 hp hlp) hpn hzn (hx _ hfp)
      exact (ch_self hn h1).trans_ hself haz
  · -- C
    by_cases e : m = n
    · subst e
      rw [hself] at hb'; injection hb' with hb'; subst hb'
      have h1 := (hm z).1 ((ch_set hn hano).1 hz) _ hfr
      exact (ch_set hn (hno hvp (h.done p hvp (by omega)) hpl)).2 h1
    · rw [hoth m e] at hb'
      have hop := okp hvm hb' hne hvp hpl
      have hdp : d[p]? ≠ some (-2) := by rcases hop with e3 | ⟨k, e3, -, h3⟩
                                         · omega
                                         · obtain rfl : p = k := by omega
                                           exact h3
      have hmi : pl m ≠ pl n := fun e2 => e (g.inj _ _ hvm hv e2)
      by_cases hlt2 : pl m < i
      · have h1 := h.C m b' p z hvm hb' hne hfr hvp hpl (L1 hz) (.inl hlt2)
        exact (ch_set hn (hno hvp hdp (by omega))).2 h1
      · have hz2 : i + 1 ≤ pl z := by rcases hcase with h1 | h1 <;> omega
        have h1 := h.C m b' p z hvm hb' hne hfr hvp hpl (L1 hz) (.inr (by omega))
        rcases ch_left (a := a) hn hb h1 with hh | ⟨h2, h3⟩
        · exact hh
        · have := habove hop h2 h3; omega
  · -- S
    have base : ∀ z, SD z n → Ch (d.set n a) a z := fun z hs => L5 ((hm z).2 fun x hfx => by
      obtain ⟨k, rfl, hk⟩ := hSD n z hv hs x hfx
      rcases hk with rfl | hk
      · exact .here
      · rcases g.src n _ hv hfx with e | ⟨k', e, hvk⟩
        · omega
        · obtain rfl : k = k' := by omega
          obtain ⟨c, hc⟩ := h.get (g.lt k hvk)
          exact .up hc (h.S k c z hvk hc hk))
    have key : ∀ (q m : Nat) (b' : Int) (z : Nat), pl m < q → V m → (d.set n a)[m]? = some b' → SD z m → Ch (d.set n a) b' z := by
      intro q
      induction q with
      | zero => intro m b' z hq; omega
      | succ q ih =>
        intro m b' z hq hvm hb' hs
        by_cases e : m = n
        · subst e
          rw [hself] at hb'; injection hb' with hb'; subst hb'
          exact base z hs
        · rw [hoth m e] at hb'
          rcases ch_left (a := a) hn hb (h.S m b' z hvm hb' hs) with hh | ⟨h1, h2⟩
          · exact hh
          by_cases hb2 : b' = -2
          · subst hb2; exact .top
          obtain ⟨hok, -⟩ := okb hvm hb' hb2
          have hzn := habove hok h1 h2
          rcases g.low m hvm with h0 | ⟨p, hp, hfp, hlp⟩
          · obtain ⟨k, e2, -⟩ := hSD m z hvm hs _ h0; omega
          have hpn : Ch d (p : Int) n := h.C m b' p n hvm hb' hb2 hfp hp hlp h1 (.inr (by omega))
          obtain ⟨k, e2, hk⟩ := hSD m z hvm hs _ hfp
          obtain rfl : p = k := by omega
          have hop := okp hvm hb' hb2 hp hlp
          have haz : Ch (d.set n a) a z := by
            rcases hk with rfl | hk
            · have := (h.chain hpn hop).2.2 _ rfl; omega
            · obtain ⟨c, hc⟩ : ∃ c, (d.set n a)[p]? = some c := ⟨_, List.getElem?_eq_getElem (by rw [List.length_set, h.len]; exact g.lt p hp)⟩
              exact h.ch_above hn hop hpn hzn (.up hc (ih p c z (by omega) hp hc hk))
          exact (ch_self hn h1).trans_ hself haz
    exact fun m b' z hvm hb' hs => key (pl m + 1) m b' z (Nat.lt_succ_self _) hvm hb' hs

/-- nothing is told anew: the step stands too -/
theorem Dv.stay (g : Gf N V fr pl) (hSD : ∀ n z, V n → SD z n → ∀ x, fr n x → ∃ k : Nat, x = (k : Int) ∧ (z = k ∨ SD z k)) (h : Dv N V fr pl SD d i) {n : Nat} {a : Int} (hv : V n) (hi : pl n = i) (hb : d[n]? = some a)
    (ha : Ok V d a) (hlt : ∀ c : Nat, a = (c : Int) → pl c < pl n) (hm : ∀ z, Ch d a z ↔ ∀ x, fr n x → Ch d x z) : Dv N V fr pl SD d (i + 1) := by
  have := h.step g hSD hv hi hb ha hlt hm
  have hn : n < d.length := by rw [h.len]; exact g.lt n hv
  rwa [show d.set n a = d by
    apply List.ext_getElem?; intro j
    by_cases e : n = j
    · subst e; rw [List.getElem?_set_self hn, hb]
    · rw [List.getElem?_set_ne e]] at this
/-- a round's end is the next one's start -/
theorem Dv.again (h : Dv N V fr pl SD d i) (hall : ∀ m, V m → pl m < i) : Dv N V fr pl SD d 0 :=
  ⟨h.len, h.rng, h.out, fun m _ h0 => absurd h0 (by omega), h.pre, h.B, fun m b p z h1 h2 h3 h4 h5 h6 h7 _ => h.C m b p z h1 h2 h3 h4 h5 h6 h7 (.inl (hall m h1)), h.S⟩

/-- how far one is from being told last -/
def rkO (pl : Nat → Nat) (x : Int) : Nat := if x = -2 then 1000 else if x = -1 then 0 else pl x.toNat + 1
/-- what is told anew lies further up -/
theorem Dv.lift (g : Gf N V fr pl) (h : Dv N V fr pl SD d i) (hpl : ∀ m, V m → pl m ≤ 900) {n : Nat} {a b : Int} (hv : V n) (hb : d[n]? = some b) (ha : Ok V d a) (hm : ∀ z, Ch d a z ↔ ∀ x, fr n x → Ch d x z) (hne : a ≠ b) : rkO pl a < rkO pl b := by
  have hl : ∀ z, Ch d a z → Ch d b z := fun z hz => h.B n b z hv hb ((hm z).1 hz)
  rcases h.rng n b hv hb with e | ⟨hok, -⟩
  · subst e
    rcases ha with e2 | ⟨c, e2, hc, -⟩
    · subst e2; unfold rkO; simp
    · subst e2
      have := hpl c hc
      unfold rkO
      rw [if_neg (by omega), if_neg (by omega), if_pos rfl, Int.toNat_natCast]; omega
  · rcases ha with e2 | ⟨c, e2, hc, hcd⟩
    · subst e2
      rcases hok with e3 | ⟨c', e3, -⟩
      · exact absurd e3.symm hne
      · subst e3
        unfold rkO
        rw [if_neg (by omega), if_pos rfl, if_neg (by omega), if_neg (by omega)]; omega
    · subst e2
      have h1 := hl c .here
      rcases hok with e3 | ⟨c', e3, hc', hcd'⟩
      · subst e3; exact absurd h1 (fun hh => hh.nobody)
      · subst e3
        have h2 := (h.chain h1 (.inr ⟨c', rfl, hc', hcd'⟩)).2.2 c' rfl
        have h3 : pl c ≠ pl c' := fun e => hne (by rw [g.inj _ _ hc hc' e])
        unfold rkO
        rw [if_neg (by omega), if_neg (by omega), if_neg (by omega), if_neg (by omega), Int.toNat_natCast, Int.toNat_natCast]; omega

end

/-! ### the graph itself -/
section
variable {has : List (List Int)} {roots : List Int}
/-- reached without z -/
inductive Av (has : List (List Int)) (roots : List Int) (z : Nat) : Nat → Prop
  | root {k : Nat} : (k : Int) ∈ roots → k ≠ z → Av has roots z k
  | edge {n k : Nat} {l : List Int} : Av has roots z n → has[n]? = some l → (k : Int) ∈ l → k ≠ z → Av has roots z k
def Vn (has : List (List Int)) (roots : List Int) (n : Nat) : Prop := RT has roots [] n
def Frn (has : List (List Int)) (roots : List Int) (m : Nat) (x : Int) : Prop := (x = -1 ∧ (m : Int) ∈ roots) ∨ ∃ (n : Nat) (l : List Int), x = (n : Int) ∧ Vn has roots n ∧ has[n]? = some l ∧ (m : Int) ∈ l
/-- z keeps m -/
def Kp (has : List (List Int)) (roots : List Int) (z m : Nat) : Prop := Vn has roots z ∧ Vn has roots m ∧ ¬ Av has roots z m
def SDn (has : List (List Int)) (roots : List Int) (z m : Nat) : Prop := Kp has roots z m ∧ z ≠ m
theorem av_rt {z k : Nat} (h : Av has roots z k) : Vn has roots k := by
  induction h with
  | root h _ => exact .root h
  | edge _ h2 h3 _ ih => exact .edge ih h2 h3
theorem av_ne {z k : Nat} (h : Av has roots z k) : k ≠ z := by cases h <;> assumption
theorem vn_lt (hr : Right has) (hs : RightL has.length roots) {n : Nat} (h : Vn has roots n) : n < has.length := by
  cases h with
  | root h => obtain ⟨k, e, hk⟩ := hs _ h; omega
  | edge h1 h2 h3 => obtain ⟨k, e, hk⟩ := hr _ (List.mem_of_getElem? h2) _ h3; omega
  | pair _ h => simp at h
theorem frn_src {m : Nat} {x : Int} (h : Frn has roots m x) : x = -1 ∨ ∃ k : Nat, x = (k : Int) ∧ Vn has roots k := by
  rcases h with ⟨e, -⟩ | ⟨n, l, e, hv, -⟩
  · exact .inl e
  · exact .inr ⟨n, e, hv⟩
theorem sdn_fr : ∀ n z, Vn has roots n → SDn has roots z n → ∀ x, Frn has roots n x → ∃ k : Nat, x = (k : Int) ∧ (z = k ∨ SDn has roots z k) := by
  rintro n z hv ⟨⟨hz, -, hav⟩, hne⟩ x (⟨rfl, hr⟩ | ⟨k, l, rfl, hk, hl, hm⟩)
  · exact absurd (.root hr (Ne.symm hne)) hav
  · refine ⟨k, rfl, ?_⟩
    by_cases e : z = k
    · exact .inl e
    · exact .inr ⟨⟨hz, hk, fun h => hav (.edge h hl hm (Ne.symm hne))⟩, e⟩
theorem dv_start (hr : Right has) (hs : RightL has.length roots) {pl : Nat → Nat} : Dv has.length (Vn has roots) (Frn has roots) pl (SDn has roots) (List.replicate has.length (-2)) 0 := by
  have hg : ∀ {m : Nat} {b : Int}, (List.replicate has.length (-2 : Int))[m]? = some b → b = -2 := fun h => by
    rw [List.getElem?_replicate] at h; split at h
    · injection h with h; exact h.symm
    · cases h
  have hg2 : ∀ {m : Nat}, m < has.length → (List.replicate has.length (-2 : Int))[m]? = some (-2) := fun h => by rw [List.getElem?_replicate, if_pos h]
  refine ⟨List.length_replicate, fun m b _ hb => .inl (hg hb), fun m _ h => hg2 h, fun m _ h => absurd h (by omega), fun m p hm _ h _ => absurd (hg2 (vn_lt hr hs hm)) h, fun m b z _ hb _ => ?_, fun m b p z _ hb hne _ _ _ _ _ => absurd (hg hb) hne, fun m b z _ hb _ => ?_⟩
  · rw [hg hb]; exact .top
  · rw [hg hb]; exact .top
/-- THE END: where each is told as all that have it say, the chains are those that keep -/
theorem Dv.keeps {pl : Nat → Nat} {d : List Int} (hr : Right has) (hs : RightL has.length roots) (h : Dv has.length (Vn has roots) (Frn has roots) pl (SDn has roots) d 0) (hall : ∀ m, Vn has roots m → d[m]? ≠ some (-2))
    (hfix : ∀ m b z, Vn has roots m → d[m]? = some b → Ch d b z → ∀ x, Frn has roots m x → Ch d x z) {m z : Nat} (hm : Vn has roots m) : Ch d (m : Int) z ↔ Kp has roots z m := by
  constructor
  · intro hc
    refine ⟨(h.chain hc (.inr ⟨m, rfl, hm, hall m hm⟩)).1, hm, fun hav => ?_⟩
    clear hm
    induction hav with
    | @root k h1 h2 =>
      rcases hc.cases_ with e | ⟨b, hb, hcb⟩
      · exact h2 e.symm
      · exact (hfix k b z (.root h1) hb hcb (-1) (.inl ⟨rfl, h1⟩)).nobody
    | @edge n k l h1 h2 h3 h4 ih =>
      rcases hc.cases_ with e | ⟨b, hb, hcb⟩
      · exact h4 e.symm
      · exact ih (hfix k b z (.edge (av_rt h1) h2 h3) hb hcb n (.inr ⟨n, l, rfl, av_rt h1, h2, h3⟩))
  · intro hk
    by_cases e : z = m
    · subst e; exact .here
    · obtain ⟨b, hb⟩ := h.get (vn_lt hr hs hm)
      exact .up hb (h.S m b z hm hb ⟨hk, e⟩)
end
end Go.Proofs.Ytpkccpegdpodoaa

/- The walk into depth: what it leaves. No program is named here. -/
namespace Go.Proofs.Ytpkccpegdpodoaa

structure WS where
  pl : List Int
  or : List Int
  fr : List (List Int)
def WS.vis (s : WS) (k : Nat) : Prop := s.pl[k]? = some (-1)
def WS.grey (s : WS) (k : Nat) : Prop := s.vis k ∧ (k : Int) ∉ s.or
def unv (l : List Int) : Nat := (l.filter fun v => v == -2).length
def tot (l : List (List Int)) : Nat := (l.map List.length).sum

structure WInv (has : List (List Int)) (roots : List Int) (s : WS) : Prop where
  lp : s.pl.length = has.length
  lf : s.fr.length = has.length
  pv : ∀ (k : Nat) v, s.pl[k]? = some v → v = -2 ∨ v = -1
  nd : s.or.Nodup
  on : ∀ x ∈ s.or, ∃ k : Nat, x = (k : Int) ∧ s.vis k
  cl : ∀ (n k : Nat) l, (n : Int) ∈ s.or → has[n]? = some l → (k : Int) ∈ l → s.vis k ∧ ∀ fl, s.fr[k]? = some fl → (n : Int) ∈ fl
  fs : ∀ (k : Nat) fl x, s.fr[k]? = some fl → x ∈ fl → (x = -1 ∧ (k : Int) ∈ roots) ∨ ∃ (n : Nat) (l : List Int), x = (n : Int) ∧ s.vis n ∧ has[n]? = some l ∧ (k : Int) ∈ l
  vr : ∀ k, s.vis k → Vn has roots k
  par : ∀ k : Nat, (k : Int) ∈ s.or → (k : Int) ∈ roots ∨ ∃ (p : Nat) (l : List Int), has[p]? = some l ∧ (k : Int) ∈ l ∧ s.vis p ∧ p ≠ k ∧ ∀ a b, s.or = a ++ (k : Int) :: b → (p : Int) ∉ a

structure WExt (s s' : WS) : Prop where
  mono : ∀ k, s.vis k → s'.vis k
  grey : ∀ k, s'.grey k ↔ s.grey k
  frm : ∀ (k : Nat) fl fl' x, s.fr[k]? = some fl → s'.fr[k]? = some fl' → x ∈ fl → x ∈ fl'
  fl : s'.fr.length = s.fr.length
  unv : unv s'.pl ≤ unv s.pl
  or : ∀ k : Nat, (k : Int) ∈ s.or → (k : Int) ∈ s'.or

section
variable {has : List (List Int)} {roots : List Int} {s s' s2 : WS}
theorem WExt.refl (s : WS) : WExt s s := ⟨fun _ h => h, fun _ => Iff.rfl, fun _ fl fl' x h h' hx => by rw [h] at h'; injection h' with h'; subst h'; exact hx, rfl, Nat.le_refl _, fun _ h => h⟩
theorem WExt.trans (h : WExt s s') (h' : WExt s' s2) : WExt s s2 :=
  ⟨fun k hk => h'.mono k (h.mono k hk), fun k => (h'.grey k).trans (h.grey k), fun k fl fl' x e e' hx => by
    obtain ⟨fm, hm⟩ : ∃ fm, s'.fr[k]? = some fm := ⟨_, List.getElem?_eq_getElem (by rw [h.fl]; exact (List.getElem?_eq_some_iff.1 e).1)⟩
    exact h'.frm k fm fl' x hm e' (h.frm k fl fm x e hm hx), h'.fl.trans h.fl, Nat.le_trans h'.unv h.unv, fun k hk => h'.or k (h.or k hk)⟩

theorem unv_set {l : List Int} : ∀ {n : Nat}, l[n]? = some (-2) → unv (l.set n (-1)) + 1 = unv l := by
  unfold unv
  induction l with
  | nil => intro n h; simp at h
  | cons x l ih =>
    intro n h
    match n, h with
    | 0, h => simp at h; subst h; simp
    | n + 1, h =>
      simp only [List.getElem?_cons_succ] at h
      have := ih h
      simp only [List.set_cons_succ, List.filter_cons]
      split <;> (try simp only [List.length_cons]) <;> omega
theorem unv_le (l : List Int) : unv l ≤ l.length := List.length_filter_le _ _
theorem tot_set {l : List (List Int)} : ∀ {k : Nat} {fl : List Int} (x : Int), l[k]? = some fl → tot (l.set k (fl ++ [x])) = tot l + 1 := by
  unfold tot
  induction l with
  | nil => intro k fl x h; simp at h
  | cons y l ih =>
    intro k fl x h
    match k, h with
    | 0, h => simp at h; subst h; simp; omega
    | k + 1, h =>
      simp only [List.getElem?_cons_succ] at h
      have := ih x h
      simp only [List.set_cons_succ, List.map_cons, List.sum_cons]; omega
theorem tot_get {l : List (List Int)} : ∀ {k : Nat} {fl : List Int}, l[k]? = some fl → fl.length ≤ tot l := by
  unfold tot
  induction l with
  | nil => intro k fl h; simp at h
  | cons y l ih =>
    intro k fl h
    match k, h with
    | 0, h => simp at h; subst h; simp
    | k + 1, h =>
      simp only [List.getElem?_cons_succ] at h
      have := ih h
      simp only [List.map_cons, List.sum_cons]; omega

/-- n is begun -/
theorem WInv.mark (h : WInv has roots s) {n : Nat} (hn : s.pl[n]? = some (-2)) (hv : Vn has roots n) : WInv has roots { s with pl := s.pl.set n (-1) } ∧ (∀ k, s.vis k → WS.vis { s with pl := s.pl.set n (-1) } k) ∧ WS.grey { s with pl := s.pl.set n (-1) } n ∧ ∀ k, WS.grey { s with pl := s.pl.set n (-1) } k ↔ s.grey k ∨ k = n := by
  have hlt := (List.getElem?_eq_some_iff.1 hn).1
  have hself : (s.pl.set n (-1))[n]? = some (-1) := List.getElem?_set_self hlt
  have mono : ∀ k, s.vis k → WS.vis { s with pl := s.pl.set n (-1) } k := fun k hk => by
    show (s.pl.set n (-1))[k]? = some (-1)
    by_cases e : n = k
    · subst e; exact hself
    · rw [List.getElem?_set_ne e]; exact hk
  have back : ∀ k, WS.vis { s with pl := s.pl.set n (-1) } k → s.vis k ∨ k = n := fun k hk => by
    by_cases e : n = k
    · exact .inr e.symm
    · have : (s.pl.set n (-1))[k]? = some (-1) := hk
      rw [List.getElem?_set_ne e] at this; exact .inl this
  have hno : (n : Int) ∉ s.or := fun hh => by
    obtain ⟨k, e, hk⟩ := h.on _ hh
    obtain rfl : n = k := by omega
    unfold WS.vis at hk; rw [hn] at hk; injection hk with hk; omega
  refine ⟨⟨by simp [h.lp], h.lf, fun k v hk => ?_, h.nd, fun x hx => ?_, fun a k l ha hl hk => ?_, fun k fl x hk hx => ?_, fun k hk => ?_, fun k hk => ?_⟩, mono, ⟨hself, hno⟩, fun k => ?_⟩
  · have hk : (s.pl.set n (-1))[k]? = some v := hk
    by_cases e : n = k
    · subst e; rw [hself] at hk; injection hk with hk; exact .inr hk.symm
    · rw [List.getElem?_set_ne e] at hk; exact h.pv k v hk
  · obtain ⟨k, e, hk⟩ := h.on x hx; exact ⟨k, e, mono k hk⟩
  · obtain ⟨h1, h2⟩ := h.cl a k l ha hl hk; exact ⟨mono k h1, h2⟩
  · rcases h.fs k fl x hk hx with h1 | ⟨m, l, e, hm, h2, h3⟩
    · exact .inl h1
    · exact .inr ⟨m, l, e, mono m hm, h2, h3⟩
  · rcases back k hk with h1 | h1
    · exact h.vr k h1
    · subst h1; exact hv
  · rcases h.par k hk with h1 | ⟨p, l, h1, h2, h3, h4, h5⟩
    · exact .inl h1
    · exact .inr ⟨p, l, h1, h2, mono p h3, h4, h5⟩
  · constructor
    · rintro ⟨h1, h2⟩
      rcases back k h1 with h3 | h3
      · exact .inl ⟨h3, h2⟩
      · exact .inr h3
    · rintro (⟨h1, h2⟩ | h1)
      · exact ⟨mono k h1, h2⟩
      · subst h1; exact ⟨hself, hno⟩
/-- one more that has c -/
theorem WInv.push (h : WInv has roots s) {c : Nat} {fl : List Int} {x : Int} (hc : s.fr[c]? = some fl) (hx : (x = -1 ∧ (c : Int) ∈ roots) ∨ ∃ (n : Nat) (l : List Int), x = (n : Int) ∧ s.vis n ∧ has[n]? = some l ∧ (c : Int) ∈ l) :
    WInv has roots { s with fr := s.fr.set c (fl ++ [x]) } ∧ WExt s { s with fr := s.fr.set c (fl ++ [x]) } ∧ (∀ f, (s.fr.set c (fl ++ [x]))[c]? = some f → x ∈ f) := by
  have hlt := (List.getElem?_eq_some_iff.1 hc).1
  have hself : (s.fr.set c (fl ++ [x]))[c]? = some (fl ++ [x]) := List.getElem?_set_self hlt
  have keep : ∀ (k : Nat) f f' y, s.fr[k]? = some f → (s.fr.set c (fl ++ [x]))[k]? = some f' → y ∈ f → y ∈ f' := fun k f f' y e e' hy => by
    by_cases e2 : c = k
    · subst e2
      rw [hself] at e'; injection e' with e'; subst e'
      rw [hc] at e; injection e with e; subst e
      exact List.mem_append_left _ hy
    · rw [List.getElem?_set_ne e2, e] at e'; injection e' with e'; subst e'; exact hy
  have keep2 : ∀ (k : Nat) y, (∀ f, s.fr[k]? = some f → y ∈ f) → ∀ f', (s.fr.set c (fl ++ [x]))[k]? = some f' → y ∈ f' := fun k y hf f' e' => by
    have hk : k < s.fr.length := by have := (List.getElem?_eq_some_iff.1 e').1; rwa [List.length_set] at this
    exact keep k _ f' y (List.getElem?_eq_getElem hk) e' (hf _ (List.getElem?_eq_getElem hk))
  refine ⟨⟨h.lp, by simp [h.lf], h.pv, h.nd, h.on, fun a k l ha hl hk => ?_, fun k f y hk hy => ?_, h.vr, h.par⟩, ⟨fun _ hk => hk, fun _ => Iff.rfl, keep, by simp, Nat.le_refl _, fun _ hk => hk⟩, fun f hf => ?_⟩
  · obtain ⟨h1, h2⟩ := h.cl a k l ha hl hk
    exact ⟨h1, keep2 k _ h2⟩
  · have hk : (s.fr.set c (fl ++ [x]))[k]? = some f := hk
    by_cases e2 : c = k
    · subst e2
      rw [hself] at hk; injection hk with hk; subst hk
      rcases List.mem_append.1 hy with hy | hy
      · exact h.fs c fl y hc hy
      · rw [List.mem_singleton] at hy; subst hy; exact hx
    · rw [List.getElem?_set_ne e2] at hk; exact h.fs k f y hk hy
  · rw [hself] at hf; injection hf with hf; subst hf; simp
/-- n is left -/
theorem WInv.leave (h : WInv has roots s) {n : Nat} (hg : s.grey n) (hch : ∀ (k : Nat) l, has[n]? = some l → (k : Int) ∈ l → s.vis k ∧ ∀ fl, s.fr[k]? = some fl → (n : Int) ∈ fl)
    (hp : (n : Int) ∈ roots ∨ ∃ (p : Nat) (l : List Int), has[p]? = some l ∧ (n : Int) ∈ l ∧ s.grey p ∧ p ≠ n) : WInv has roots { s with or := s.or ++ [(n : Int)] } ∧ ∀ k, WS.grey { s with or := s.or ++ [(n : Int)] } k ↔ s.grey k ∧ k ≠ n := by
  refine ⟨⟨h.lp, h.lf, h.pv, ?_, fun x hx => ?_, fun a k l ha hl hk => ?_, h.fs, h.vr, fun k hk => ?_⟩, fun k => ?_⟩
  · show (s.or ++ [(n : Int)]).Nodup
    rw [List.nodup_append]
    refine ⟨h.nd, by simp, fun a ha b hb => ?_⟩
    rw [List.mem_singleton] at hb; subst hb
    intro e; subst e; exact hg.2 ha
  · rcases List.mem_append.1 hx with hx | hx
    · exact h.on x hx
    · rw [List.mem_singleton] at hx; exact ⟨n, hx, hg.1⟩
  · rcases List.mem_append.1 ha with ha | ha
    · exact h.cl a k l ha hl hk
    · rw [List.mem_singleton] at ha
      obtain rfl : a = n := by omega
      exact hch k l hl hk
  · rcases List.mem_append.1 hk with hk | hk
    · rcases h.par k hk with h1 | ⟨p, l, h1, h2, h3, h4, h5⟩
      · exact .inl h1
      · refine .inr ⟨p, l, h1, h2, h3, h4, fun a b e => ?_⟩
        have e : s.or ++ [(n : Int)] = a ++ (k : Int) :: b := e
        rcases List.eq_nil_or_concat b with rfl | ⟨b', y, rfl⟩
        · have := List.append_inj' e rfl
          have h6 := this.2
          injection h6 with h6 _
          exact absurd hk (by rw [← h6]; exact hg.2)
        · rw [List.concat_eq_append, ← List.cons_append, ← List.append_assoc] at e
          have := (List.append_inj' e rfl).1
          exact h5 a b' this
    · rw [List.mem_singleton] at hk
      obtain rfl : k = n := by omega
      rcases hp with h1 | ⟨p, l, h1, h2, h3, h4⟩
      · exact .inl h1
      · refine .inr ⟨p, l, h1, h2, h3.1, h4, fun a b e hpa => ?_⟩
        have e : s.or ++ [(k : Int)] = a ++ (k : Int) :: b := e
        have hin : (p : Int) ∈ s.or ++ [(k : Int)] := by rw [e]; exact List.mem_append_left _ hpa
        rcases List.mem_append.1 hin with h6 | h6
        · exact h3.2 h6
        · rw [List.mem_singleton] at h6; omega
  · constructor
    · rintro ⟨h1, h2⟩
      have h2 : (k : Int) ∉ s.or ++ [(n : Int)] := h2
      rw [List.mem_append, List.mem_singleton] at h2
      exact ⟨⟨h1, fun hh => h2 (.inl hh)⟩, fun e => h2 (.inr (by rw [e]))⟩
    · rintro ⟨⟨h1, h2⟩, h3⟩
      refine ⟨h1, fun hh => ?_⟩
      have hh : (k : Int) ∈ s.or ++ [(n : Int)] := hh
      rcases List.mem_append.1 hh with h4 | h4
      · exact h2 h4
      · rw [List.mem_singleton] at h4; omega
end
end Go.Proofs.Ytpkccpegdpodoaa

/- The tree of owns as it lies: its rows apart from each other. -/
namespace Go.Proofs.Ytpkccpegdpodoaa
open Go.RowKit

/-- rows of ints, each apart from the others -/
structure Rs (w : World) (base : Nat) (l : List SlR) : Prop where
  sub : ∀ (i : Nat) y, l[i]? = some y → Own w base 3 y.A y.c y.l ∧ ∀ k ∈ y.l, I64 k
  apart : ∀ (i j : Nat) y z, i ≠ j → l[i]? = some y → l[j]? = some z → ∀ g, rowOf y.A = some g → rowOf z.A ≠ some g
section
variable {w w' : World} {base : Nat} {l : List SlR}
theorem Rs.keep (h : Rs w base l) (hk : ∀ {A : Option Addr} {c : Nat} {r : List Int}, Own w base 3 A c r → Own w' base 3 A c r) : Rs w' base l := ⟨fun i y hy => ⟨hk (h.sub i y hy).1, (h.sub i y hy).2⟩, h.apart⟩
theorem Rs.fresh (h : Rs w base l) (hb : Below w.heap.size w w') : Rs w' base l := h.keep fun o => o.fresh hb
theorem Rs.grow (h : Rs w base l) {i : Nat} {y y' : SlR} (hy : l[i]? = some y) (ho : Own w' base 3 y'.A y'.c y'.l) (hk : ∀ k ∈ y'.l, I64 k) (hg : w.grownBy w' (rowOf y.A)) (hat : rowOf y'.A = rowOf y.A ∨ rowOf y'.A = some w.heap.size) : Rs w' base (l.set i y') := by
  have hlt := (List.getElem?_eq_some_iff.1 hy).1
  have case : ∀ {j : Nat} {z : SlR}, (l.set i y')[j]? = some z → (j = i ∧ z = y') ∨ (j ≠ i ∧ l[j]? = some z) := fun {j z} hz => by
    by_cases e : i = j
    · subst e; rw [List.getElem?_set_self hlt] at hz; injection hz with hz; exact .inl ⟨rfl, hz.symm⟩
    · rw [List.getElem?_set_ne e] at hz; exact .inr ⟨fun e2 => e e2.symm, hz⟩
  refine ⟨fun j z hz => ?_, fun j k z u hjk hz hu g hg1 hg2 => ?_⟩
  · rcases case hz with ⟨rfl, rfl⟩ | ⟨hne, hz⟩
    · exact ⟨ho, hk⟩
    · exact ⟨(h.sub j z hz).1.grown hg (fun g hg' e => h.apart i j y z (Ne.symm hne) hy hz g e hg'), (h.sub j z hz).2⟩
  · rcases case hz with ⟨rfl, rfl⟩ | ⟨hne, hz2⟩
    · rcases case hu with ⟨rfl, rfl⟩ | ⟨hne2, hu⟩
      · exact hjk rfl
      · rcases hat with e | e
        · exact h.apart j k y u hjk hy hu g (e ▸ hg1) hg2
        · have h1 := e.symm.trans hg1; injection h1 with h1; have := ((h.sub k u hu).1.lt g hg2).2; omega
    · rcases case hu with ⟨rfl, rfl⟩ | ⟨hne2, hu⟩
      · rcases hat with e | e
        · exact h.apart j k z y hjk hz2 hy g hg1 (e ▸ hg2)
        · have h1 := e.symm.trans hg2; injection h1 with h1; have := ((h.sub j z hz2).1.lt g hg1).2; omega
      · exact h.apart j k z u hjk hz2 hu g hg1 hg2
theorem Rs.setc (h : Rs w base l) {i g j : Nat} {y : SlR} {v : Int} (hy : l[i]? = some y) (hA : y.A = some ⟨g, 0, none⟩) (hj : j < y.l.length) (hv : I64 v) : Rs (w.setCell ⟨g, j, none⟩ (.int .i64 v)) base (l.set i ⟨y.A, y.c, y.l.set j v⟩) := by
  have hlt := (List.getElem?_eq_some_iff.1 hy).1
  have case : ∀ {k : Nat} {z : SlR}, (l.set i ⟨y.A, y.c, y.l.set j v⟩)[k]? = some z → (k = i ∧ z = ⟨y.A, y.c, y.l.set j v⟩) ∨ (k ≠ i ∧ l[k]? = some z) := fun {k z} hz => by
    by_cases e : i = k
    · subst e; rw [List.getElem?_set_self hlt] at hz; injection hz with hz; exact .inl ⟨rfl, hz.symm⟩
    · rw [List.getElem?_set_ne e] at hz; exact .inr ⟨fun e2 => e e2.symm, hz⟩
  refine ⟨fun k z hz => ?_, fun a b z u hab hz hu g' hg1 hg2 => ?_⟩
  · rcases case hz with ⟨rfl, rfl⟩ | ⟨hne, hz⟩
    · have := (h.sub k y hy).1
      rw [hA] at this
      refine ⟨by simp only; rw [hA]; exact this.set_int v hj, fun x hx => ?_⟩
      rcases List.mem_or_eq_of_mem_set hx with h1 | h1
      · exact (h.sub k y hy).2 x h1
      · rw [h1]; exact hv
    · refine ⟨(h.sub k z hz).1.setCell _ _ (fun e => h.apart i k y z (Ne.symm hne) hy hz g (by rw [hA]; rfl) e), (h.sub k z hz).2⟩
  · have key : ∀ {k : Nat} {z : SlR}, (l.set i ⟨y.A, y.c, y.l.set j v⟩)[k]? = some z → ∃ z', l[k]? = some z' ∧ z'.A = z.A := fun {k z} hz => by
      rcases case hz with ⟨rfl, rfl⟩ | ⟨-, hz⟩
      · exact ⟨y, hy, rfl⟩
      · exact ⟨z, hz, rfl⟩
    obtain ⟨z', hz', e1⟩ := key hz
    obtain ⟨u', hu', e2⟩ := key hu
    exact h.apart a b z' u' hab hz' hu' g' (by rw [e1]; exact hg1) (by rw [e2]; exact hg2)
end

/-- the tree: place, order, doms, and who has each -/
structure Tr (w : World) (base T : Nat) (hv rv : Value) (P O D : SlR) (FA : Option Addr) (fc : Nat) (F : List SlR) : Prop where
  blk : Blk w T 175 #[hv, rv, .slice P.A P.l.length P.c, .slice O.A O.l.length O.c, .slice FA F.length fc, .slice D.A D.l.length D.c]
  rs : Rs w base (P :: O :: D :: F)
  row : Own w base 47 FA fc F
  low : base ≤ T
section
variable {w w' : World} {base T : Nat} {hv rv : Value} {P O D : SlR} {FA : Option Addr} {fc : Nat} {F : List SlR}
theorem Tr.fresh (h : Tr w base T hv rv P O D FA fc F) (hb : Below w.heap.size w w') : Tr w' base T hv rv P O D FA fc F := ⟨h.blk.fresh hb, h.rs.fresh hb, h.row.fresh hb, h.low⟩
theorem Tr.drewN (h : Tr w base T hv rv P O D FA fc F) (n : Nat) : Tr (w.drewN n) base T hv rv P O D FA fc F := ⟨h.blk.drewN n, h.rs.keep fun o => o.drewN n, h.row.drewN n, h.low⟩
theorem Tr.rowP (h : Tr w base T hv rv P O D FA fc F) : Own w base 3 P.A P.c P.l := (h.rs.sub 0 P rfl).1
theorem Tr.rowO (h : Tr w base T hv rv P O D FA fc F) : Own w base 3 O.A O.c O.l := (h.rs.sub 1 O rfl).1
theorem Tr.rowD (h : Tr w base T hv rv P O D FA fc F) : Own w base 3 D.A D.c D.l := (h.rs.sub 2 D rfl).1
theorem Tr.rowF (h : Tr w base T hv rv P O D FA fc F) {c : Nat} {y : SlR} (hy : F[c]? = some y) : Own w base 3 y.A y.c y.l := (h.rs.sub (c + 3) y hy).1
theorem Tr.lt (h : Tr w base T hv rv P O D FA fc F) : T < w.heap.size := h.blk.lt
/-- a place is written -/
theorem Tr.setP (h : Tr w base T hv rv P O D FA fc F) {g n : Nat} {v : Int} (hA : P.A = some ⟨g, 0, none⟩) (hn : n < P.l.length) (hv' : I64 v) : Tr (w.setCell ⟨g, n, none⟩ (.int .i64 v)) base T hv rv ⟨P.A, P.c, P.l.set n v⟩ O D FA fc F := by
  have ho := h.rowP
  have hg : rowOf P.A = some g := by rw [hA]; rfl
  refine ⟨?_, h.rs.setc (i := 0) rfl hA hn hv', h.row.setCell _ _ (own_own_ty ho h.row (by decide) g hg), h.low⟩
  have := h.blk.far (p := ⟨g, n, none⟩) (fun e => own_ne_ty ho h.blk (by decide) (by rw [hg, e])) (.int .i64 v)
  simpa using this
theorem Tr.setD (h : Tr w base T hv rv P O D FA fc F) {g n : Nat} {v : Int} (hA : D.A = some ⟨g, 0, none⟩) (hn : n < D.l.length) (hv' : I64 v) : Tr (w.setCell ⟨g, n, none⟩ (.int .i64 v)) base T hv rv P O ⟨D.A, D.c, D.l.set n v⟩ FA fc F := by
  have ho := h.rowD
  have hg : rowOf D.A = some g := by rw [hA]; rfl
  refine ⟨?_, h.rs.setc (i := 2) rfl hA hn hv', h.row.setCell _ _ (own_own_ty ho h.row (by decide) g hg), h.low⟩
  have := h.blk.far (p := ⟨g, n, none⟩) (fun e => own_ne_ty ho h.blk (by decide) (by rw [hg, e])) (.int .i64 v)
  simpa using this
/-- the order is longer by one -/
theorem Tr.pushO (h : Tr w base T hv rv P O D FA fc F) {A2 : Option Addr} {c2 : Nat} {x : Int} (ho : Own w' base 3 A2 c2 (O.l ++ [x])) (hg : w.grownBy w' (rowOf O.A)) (hat : rowOf A2 = rowOf O.A ∨ rowOf A2 = some w.heap.size) (hx : I64 x) :
    Tr (w'.setCell ⟨T, 3, none⟩ (.slice A2 (O.l.length + 1) c2)) base T hv rv P ⟨A2, c2, O.l ++ [x]⟩ D FA fc F := by
  have hO := h.rowO
  have hk : ∀ k ∈ O.l ++ [x], I64 k := fun k hk => by
    rcases List.mem_append.1 hk with hk | hk
    · exact (h.rs.sub 1 O rfl).2 k hk
    · rw [List.mem_singleton] at hk; subst hk; exact hx
  have hrs := h.rs.grow (i := 1) (y := O) (y' := ⟨A2, c2, O.l ++ [x]⟩) rfl ho hk hg hat
  have hb : Blk w' T 175 _ := h.blk.grown hg (own_ne_ty hO h.blk (by decide))
  have hr : Own w' base 47 FA fc F := h.row.grown hg (fun g hg' e => own_own_ty hO h.row (by decide) g e hg')
  refine ⟨?_, hrs.keep fun o => o.setCell _ _ (own_ne_ty o hb (by decide)), hr.setCell _ _ (own_ne_ty hr hb (by decide)), h.low⟩
  have := hb.set_ 3 (.slice A2 (O.l.length + 1) c2)
  simpa using this
/-- the order is turned round -/
theorem Tr.newO (h : Tr w base T hv rv P O D FA fc F) {l' : List Int} (ho : Own w' base 3 O.A O.c l') (hg : w.grownBy w' (rowOf O.A)) (hl : l'.length = O.l.length) (hk : ∀ k ∈ l', I64 k) : Tr w' base T hv rv P ⟨O.A, O.c, l'⟩ D FA fc F := by
  have hO := h.rowO
  refine ⟨?_, h.rs.grow (i := 1) (y := O) (y' := ⟨O.A, O.c, l'⟩) rfl ho hk hg (.inl rfl), h.row.grown hg (fun g hg' e => own_own_ty hO h.row (by decide) g e hg'), h.low⟩
  have := h.blk.grown hg (own_ne_ty hO h.blk (by decide))
  simp only
  rw [hl]; exact this
/-- one more has c -/
theorem Tr.pushF (h : Tr w base T hv rv P O D FA fc F) {gF c : Nat} {y : SlR} (hF : FA = some ⟨gF, 0, none⟩) (hy : F[c]? = some y) {A2 : Option Addr} {c2 : Nat} {x : Int} (ho : Own w' base 3 A2 c2 (y.l ++ [x])) (hg : w.grownBy w' (rowOf y.A)) (hat : rowOf A2 = rowOf y.A ∨ rowOf A2 = some w.heap.size) (hx : I64 x) :
    Tr (w'.setCell ⟨gF, c, none⟩ (.slice A2 (y.l.length + 1) c2)) base T hv rv P O D FA fc (F.set c ⟨A2, c2, y.l ++ [x]⟩) := by
  have hY := h.rowF hy
  have hgF : rowOf FA = some gF := by rw [hF]; rfl
  have hk : ∀ k ∈ y.l ++ [x], I64 k := fun k hk => by
    rcases List.mem_append.1 hk with hk | hk
    · exact (h.rs.sub (c + 3) y hy).2 k hk
    · rw [List.mem_singleton] at hk; subst hk; exact hx
  have hrs := h.rs.grow (i := c + 3) (y := y) (y' := ⟨A2, c2, y.l ++ [x]⟩) hy ho hk hg hat
  have hb : Blk w' T 175 _ := h.blk.grown hg (own_ne_ty hY h.blk (by decide))
  have hr : Own w' base 47 FA fc F := h.row.grown hg (fun g hg' e => own_own_ty hY h.row (by decide) g e hg')
  have hTg : T ≠ gF := fun e => own_ne_ty hr hb (by decide) (by rw [hgF, e])
  subst hF
  refine ⟨?_, ?_, ?_, h.low⟩
  · have := hb.far (p := ⟨gF, c, none⟩) hTg (.slice A2 (y.l.length + 1) c2)
    simpa using this
  · have : Rs (w'.setCell ⟨gF, c, none⟩ (.slice A2 (y.l.length + 1) c2)) base ((P :: O :: D :: F).set (c + 3) ⟨A2, c2, y.l ++ [x]⟩) := hrs.keep fun o => o.setCell _ _ (fun e => own_own_ty o hr (by decide) gF e rfl)
    exact this
  · have := hr.set_ (g := gF) (i := c) (j := 0) (x := y) (y := (⟨A2, c2, y.l ++ [x]⟩ : SlR)) (u := .slice A2 (y.l.length + 1) c2) rfl hy (by decide) (by simp [Flat.cells])
    simpa [Flat.sz] using this
end

/-- the tree, its rows left out -/
def TrS (w : World) (base T : Nat) (hv rv : Value) (DL : List Int) (s : WS) : Prop :=
  ∃ (P O D : SlR) (FA : Option Addr) (fc : Nat) (F : List SlR), Tr w base T hv rv P O D FA fc F ∧ P.l = s.pl ∧ O.l = s.or ∧ F.map SlR.l = s.fr ∧ D.l = DL
theorem TrS.fresh {w w' : World} {base T : Nat} {hv rv : Value} {DL : List Int} {s : WS} (h : TrS w base T hv rv DL s) (hb : Below w.heap.size w w') : TrS w' base T hv rv DL s := by
  obtain ⟨P, O, D, FA, fc, F, h1, h2⟩ := h
  exact ⟨P, O, D, FA, fc, F, h1.fresh hb, h2⟩
theorem TrS.drewN {w : World} {base T : Nat} {hv rv : Value} {DL : List Int} {s : WS} (h : TrS w base T hv rv DL s) (n : Nat) : TrS (w.drewN n) base T hv rv DL s := by
  obtain ⟨P, O, D, FA, fc, F, h1, h2⟩ := h
  exact ⟨P, O, D, FA, fc, F, h1.drewN n, h2⟩

end Go.Proofs.Ytpkccpegdpodoaa

/- owns.tree.walk. -/
namespace Go.Proofs.Ytpkccpegdpodoaa
open Go.RowKit

attribute [local go_sem ↓] Go.wp_at_zero Go.wp_at_succ

theorem WExt.has_ {s s' : WS} (h : WExt s s') {k : Nat} {x : Int} (hx : ∀ fl, s.fr[k]? = some fl → x ∈ fl) : ∀ fl, s'.fr[k]? = some fl → x ∈ fl := fun fl' e => by
  obtain ⟨fl, hf⟩ : ∃ fl, s.fr[k]? = some fl := ⟨_, List.getElem?_eq_getElem (by rw [← h.fl]; exact (List.getElem?_eq_some_iff.1 e).1)⟩
  exact h.frm k fl fl' x hf e (hx fl hf)
theorem map_set_l {F : List SlR} {c : Nat} {y : SlR} : (F.set c y).map SlR.l = (F.map SlR.l).set c y.l := by rw [List.map_set]


set_option maxHeartbeats 3200000 in
set_option maxRecDepth 100000 in
theorem walk_any (has : List (List Int)) (roots : List Int) (HA : Option Addr) (hc B base T : Nat) (rv : Value) (DL : List Int) (hright : Right has) (hl10 : ∀ l ∈ has, l.length ≤ 10) (hN : has.length ≤ 100) :
    ∀ (f : Nat) (w : World) (s : WS) (n : Nat), unv s.pl ≤ f → At w B HA has → B ≤ base → base ≤ w.heap.size → TrS w base T (.slice HA has.length hc) rv DL s → WInv has roots s → n < has.length → Vn has roots n → tot s.fr + 10 * unv s.pl ≤ 2000 → s.or.length + unv s.pl ≤ 200 →
      ((n : Int) ∈ roots ∨ ∃ (p : Nat) (l : List Int), has[p]? = some l ∧ (n : Int) ∈ l ∧ s.grey p) →
      Calls Try.prog 172 #[.pointer (some ⟨T, 0, none⟩), .int .i64 (n : Int)] w fun e w' => e = .returned (.tuple #[]) ∧
        (∃ s', TrS w' base T (.slice HA has.length hc) rv DL s' ∧ WInv has roots s' ∧ WExt s s' ∧ s'.vis n ∧ tot s'.fr + 10 * unv s'.pl ≤ tot s.fr + 10 * unv s.pl ∧ s'.or.length + unv s'.pl ≤ s.or.length + unv s.pl) ∧ Below base w w' := by
  obtain ⟨i0, hi, hz0, hz1, hz2⟩ := info_parts infoInt
  obtain ⟨N, hNe⟩ : ∃ N, has.length = N := ⟨_, rfl⟩
  have HG := Lib.hid (And.intro hright (And.intro hl10 hNe)); clear hright hl10
  rw [hNe]
  rw [hNe] at hN
  clear hNe
  intro f
  induction f using Nat.strongRecOn with
  | ind f ih =>
    intro w s n hu hh hBb hbw hT hI hn hv hb1 hb2 hp
    have HIH := Lib.hid ih; clear ih
    obtain ⟨P, O, D, FA, fc, F, hTr, e1, e2, e3, e4⟩ := hT
    have hPN : P.l.length = N := by rw [e1, hI.lp]; exact HG.out.2.2
    obtain ⟨gP, hPA, hgP1, hgP2⟩ := hTr.rowP.some_ (by omega)
    obtain ⟨v, hv0⟩ : ∃ v, P.l[n]? = some v := ⟨_, List.getElem?_eq_getElem (by omega)⟩
    have hTlt := hTr.lt
    have hTlow := hTr.low
    have c2 := hTr.blk.cell 2 (v := .slice P.A P.l.length P.c) rfl
    have p0 := hTr.rowP
    rw [hPA] at p0 c2
    rw [hPN] at c2
    have z0 := p0.frozen (g := gP) rfl n
    have p1 := p0.cell_int hv0
    have n0 : (0 : Int) ≤ (n : Int) := by omega
    have n1 : (n : Int) < (N : Int) := by omega
    rcases hI.pv n v (by rw [← e1]; exact hv0) with rfl | rfl
    rotate_left
    · -- it is known
      have HX := Lib.hid (And.intro hTr (And.intro hI (And.intro e1 (And.intro e2 (And.intro e3 (And.intro e4 hv0)))))); clear hTr hI e1 e2 e3 e4 hv0 p0 hp hh hv
      go_enter Try.func172, Try.ntmps172
      go_wp2_with fail
      go_returns
      exact ⟨rfl, ⟨s, ⟨P, O, D, FA, fc, F, HX.out.1, HX.out.2.2.1, HX.out.2.2.2.1, HX.out.2.2.2.2.1, HX.out.2.2.2.2.2.1⟩, HX.out.2.1, WExt.refl s, by unfold WS.vis; rw [← HX.out.2.2.1]; exact HX.out.2.2.2.2.2.2, Nat.le_refl _, Nat.le_refl _⟩, Below.refl _ _⟩
    · have hv1 : s.pl[n]? = some (-2) := by rw [← e1]; exact hv0
      obtain ⟨hI1, hmono, hgn, hgrey⟩ := hI.mark hv1 hv
      have hu1 := unv_set hv1
      obtain ⟨s1, hs1⟩ : ∃ s1 : WS, ({ s with pl := s.pl.set n (-1) } : WS) = s1 := ⟨_, rfl⟩
      have hs1p : s1.pl = s.pl.set n (-1) := by rw [← hs1]
      have hs1o : s1.or = s.or := by rw [← hs1]
      have hs1f : s1.fr = s.fr := by rw [← hs1]
      rw [hs1] at hI1 hmono hgn hgrey
      have hset := hTr.setP (n := n) (v := -1) hPA (by omega) ⟨by omega, by omega⟩
      have hT1 : TrS (w.setCell ⟨gP, n, none⟩ (.int .i64 (-1))) base T (.slice HA N hc) rv DL s1 := ⟨_, O, D, FA, fc, F, hset, by simp only; rw [hs1p, e1], by rw [hs1o]; exact e2, by rw [hs1f]; exact e3, e4⟩
      obtain ⟨hbk, ho, row, XA, xc, hHA, hbB, hx, hc0, hxat, hxl, hxc⟩ := hh.slice_ (k := n) (by have := HG.out.2.2; omega)
      have hr10 := HG.out.2.1 row (List.mem_of_getElem? hx)
      rw [← hs1p] at hu1
      have HX := Lib.hid (And.intro hI1 (And.intro hmono (And.intro hgn (And.intro hgrey (And.intro hT1 (And.intro hh (And.intro hx (And.intro hxat (And.intro hp (And.intro hv (And.intro hI hv1)))))))))))
      have hgn0 : ¬ s.grey n := fun hh => by have := hh.1; unfold WS.vis at this; rw [hv1] at this; injection this with this; omega
      have HE := Lib.hid (And.intro hs1p (And.intro hs1o (And.intro hs1f hgn0)))
      clear hI1 hmono hgn hgrey hT1 hset hTr e1 e2 e3 e4 hv0 hv1 p0 hs1 hp hh hv hxat hI hs1p hs1o hs1f hgn0
      obtain ⟨m, hm⟩ : ∃ m, row.length = m := ⟨_, rfl⟩
      rw [hm] at hc0 hr10
      subst hHA
      go_enter Try.func172, Try.ntmps172
      go_upto_region 2 with fail
      refine wp_world (fun V => TrS V base T (.slice (some ⟨hbk, ho, none⟩) N hc) rv DL s1 ∧ Below base w V) ⟨HX.out.2.2.2.2.1, (Below.refl _ _).setCell (by simp only; omega) _⟩ ?_
      rintro V ⟨hTV, hbV⟩
      clear c2 z0 p1
      have hsV := hbV.size
      have hcV := (hbV.cell (p := ⟨hbk, ho + n, none⟩) (by simp only; omega)).trans hc0
      have h0 : V.cell? ⟨T, 0, none⟩ = some (.slice (some ⟨hbk, ho, none⟩) N hc) := by
        obtain ⟨P1, O1, D1, FA1, fc1, F1, hTr1, -⟩ := hTV
        exact hTr1.blk.cell 0 rfl
      have HV := Lib.hid hTV; clear hTV
      go_wp2_with fail
      clear hcV h0
      go_loopg [29] m (fun gk iv wr => ∃ (j : Nat) (sj : WS), j ≤ m ∧ gk = m - j ∧ iv = .int .i64 j ∧ Hid (TrS wr base T (.slice (some ⟨hbk, ho, none⟩) N hc) rv DL sj ∧ WInv has roots sj ∧ WExt s1 sj ∧ (∀ (i k : Nat), i < j → row[i]? = some (k : Int) → sj.vis k ∧ ∀ fl, sj.fr[k]? = some fl → (n : Int) ∈ fl)) ∧ tot sj.fr + 10 * unv sj.pl ≤ tot s1.fr + 10 * unv s1.pl + j ∧ sj.or.length + unv sj.pl ≤ s1.or.length + unv s1.pl ∧ unv sj.pl ≤ unv s1.pl ∧ Below base w wr)
      case atStart => exact ⟨0, s1, Nat.zero_le _, rfl, rfl, ⟨HV.out, HX.out.1, WExt.refl _, fun i k h => absurd h (by omega)⟩, Nat.le_refl _, Nat.le_refl _, Nat.le_refl _, hbV⟩
      case round =>
        obtain ⟨j, sj, hj, rfl, rfl, hkeep, ht1, ht2, ht3, hbl⟩ := hrel
        have hsz := hbl.size
        by_cases hlt : j < m
        · obtain ⟨x, hxj⟩ : ∃ x, row[j]? = some x := ⟨_, List.getElem?_eq_getElem (by omega)⟩
          obtain ⟨c, rfl, hcN⟩ := HG.out.1 row (List.mem_of_getElem? HX.out.2.2.2.2.2.2.1) x (List.mem_of_getElem? hxj)
          rw [HG.out.2.2] at hcN
          obtain ⟨b, o, x', rfl, hb', hx', hox, q0⟩ := (HX.out.2.2.2.2.2.2.2.1.below (hbl.mono hBb)).int_ (k := j) (by omega)
          obtain rfl : x' = (c : Int) := by rw [hxj] at hx'; injection hx' with hx'; exact hx'.symm
          have j0 : (0 : Int) ≤ (j : Int) := by omega
          have j1 : (j : Int) < (m : Int) := by omega
          have c0' : (0 : Int) ≤ (c : Int) := by omega
          have c1' : (c : Int) < (N : Int) := by omega
          have hcall := HIH.out (unv s1.pl) (by omega) wr sj c (by omega) (HX.out.2.2.2.2.2.1.below (hbl.mono hBb)) hBb (by omega) hkeep.out.1 hkeep.out.2.1 hcN (.edge HX.out.2.2.2.2.2.2.2.2.2.1 HX.out.2.2.2.2.2.2.1 (List.mem_of_getElem? hxj)) (by have := HE.out.2.2.1; rw [this] at ht1; omega) (by have := HE.out.2.1; rw [this] at ht2; omega) (.inr ⟨n, row, HX.out.2.2.2.2.2.2.1, List.mem_of_getElem? hxj, (hkeep.out.2.2.1.grey n).2 HX.out.2.2.1⟩)
          have HC := Lib.hid (And.intro hcall (And.intro hkeep.out hxj)); clear hcall hkeep hxj hx' hox
          go_wp2_with fail
          refine HC.out.1.mono ?_
          rintro e w2 ⟨rfl, ⟨s2, hT2, hI2, hE2, hv2, ht4, ht5⟩, hb2⟩
          have hs2 := hb2.size
          obtain ⟨P, O, D, FA, fc, F, hTr2, e1, e2, e3, e4⟩ := hT2
          have hFN : F.length = N := by have := congrArg List.length e3; rw [List.length_map, hI2.lf, HG.out.2.2] at this; exact this
          obtain ⟨gF, rfl, hgF1, hgF2⟩ := hTr2.row.some_ (by omega)
          obtain ⟨y, hy⟩ : ∃ y, F[c]? = some y := ⟨_, List.getElem?_eq_getElem (by omega)⟩
          have hfc : s2.fr[c]? = some y.l := by rw [← e3, List.getElem?_map, hy]; rfl
          have hyt := tot_get hfc
          obtain ⟨yn, hyn⟩ : ∃ yn, y.l.length = yn := ⟨_, rfl⟩
          have hyn2 : yn ≤ 3000 := by have := HE.out.2.2.1; rw [this] at ht1; omega
          have q4 := hTr2.blk.cell 4 (v := .slice (some ⟨gF, 0, none⟩) F.length fc) rfl
          have hcc : w2.cell? ⟨gF, c, none⟩ = some (.slice y.A yn y.c) := by have h0 := hTr2.row.cells_ (g := gF) (o := 0) rfl (c * 1 + 0) (.slice y.A y.l.length y.c) ((flat_get F c 0 y hy (by decide)).trans rfl); rw [hyn] at h0; simpa using h0
          have hTA : Tr (w2.drew.alloc (.cells #[.int .i64 (n : Int)] 3)) base T (.slice (some ⟨hbk, ho, none⟩) N hc) rv P O D (some ⟨gF, 0, none⟩) fc F := hTr2.fresh ((Below.refl w2.heap.size w2).drew.alloc (Nat.le_refl _) _)
          have hvn : s2.vis n := hE2.mono n (HC.out.2.1.2.2.1.mono n HX.out.2.2.1.1)
          obtain ⟨p1, p2, p3⟩ := hI2.push (x := (n : Int)) hfc (.inr ⟨n, row, rfl, hvn, HX.out.2.2.2.2.2.2.1, List.mem_of_getElem? HC.out.2.2⟩)
          have ptot := tot_set (n : Int) hfc
          have hy' := hTA.rowF hy
          have hTb := hTA.blk
          have hTr := hTA.row
          have HY := Lib.hid (And.intro hTA (And.intro hy (And.intro hyn (And.intro hy' (And.intro hTb (And.intro hTr (And.intro e1 (And.intro e2 (And.intro e3 (And.intro e4 (And.intro p1 (And.intro p2 (And.intro p3 (And.intro hE2 hv2)))))))))))))); clear hTA hy hyn hy' hTb hTr e1 e2 e3 e4 p1 p2 p3 hE2 hv2 hI2 hfc hvn hTr2 hyt
          have hkd : w2.drew.cell? ⟨gF, c, none⟩ = some (.slice y.A yn y.c) := hcc
          have hka : (w2.drew.alloc (.cells #[.int .i64 (n : Int)] 3)).cell? ⟨gF, c, none⟩ = some (.slice y.A yn y.c) := (World.cell?_alloc_lt w2.drew _ _ (show gF < w2.heap.size by omega)).trans hcc
          have q4a : (w2.drew.alloc (.cells #[.int .i64 (n : Int)] 3)).cell? ⟨T, 4, none⟩ = some (.slice (some ⟨gF, 0, none⟩) F.length fc) := HY.out.2.2.2.2.1.cell 4 rfl
          go_upto_region 6 with fail
          refine wp_region_held_drew (S := (fun w' => w'.cell? ⟨T, 4, none⟩ = some (.slice (some ⟨gF, 0, none⟩) F.length fc))) (by kernel_rfl) ?_ (fun hHeld0 => ?_)
          · first | trivial | ((try dsimp only); (exact q4))
          refine held_take (v := ?_) 0 rfl (by kernel_rfl) (by kernel_rfl) (by kernel_rfl) (fun _ _ _ h => h) (by rfl) ?_ (by assumption) ?_
          rotate_left
          · (intro w hSw; (try dsimp only at hSw); go_simp; try with_reducible rfl)
          try simp only [Act.put, List.setIfInBounds_toArray, List.set_cons_zero, List.set_cons_succ]
          refine held_take (v := ?_) 1 rfl (by kernel_rfl) (by kernel_rfl) (by kernel_rfl) (fun _ _ _ h => h) (by rfl) ?_ (by assumption) ?_
          rotate_left
          · (intro w hSw; (try dsimp only at hSw); go_simp; try with_reducible rfl)
          try simp only [Act.put, List.setIfInBounds_toArray, List.set_cons_zero, List.set_cons_succ]
          refine held_take (v := ?_) 2 rfl (by kernel_rfl) (by kernel_rfl) (by kernel_rfl) (fun _ _ _ h => h) (by rfl) ?_ (by assumption) ?_
          rotate_left
          · (intro w hSw; (try dsimp only at hSw); go_simp; try with_reducible rfl)
          try simp only [Act.put, List.setIfInBounds_toArray, List.set_cons_zero, List.set_cons_succ]
          refine held_take (v := ?_) 3 rfl (by kernel_rfl) (by kernel_rfl) (by kernel_rfl) (fun _ _ _ h => h) (by rfl) ?_ (by assumption) ?_
          rotate_left
          · (intro w hSw; (try dsimp only at hSw); go_simp; try with_reducible rfl)
          try simp only [Act.put, List.setIfInBounds_toArray, List.set_cons_zero, List.set_cons_succ]
          refine held_take (v := ?_) 4 rfl (by kernel_rfl) (by kernel_rfl) (by kernel_rfl) (fun _ _ _ h => h) (by rfl) ?_ (by assumption) ?_
          rotate_left
          · (intro w hSw; (try dsimp only at hSw); go_simp; try with_reducible rfl)
          try simp only [Act.put, List.setIfInBounds_toArray, List.set_cons_zero, List.set_cons_succ]
          refine held_take (v := ?_) 5 rfl (by kernel_rfl) (by kernel_rfl) (by kernel_rfl) (fun _ _ _ h => h) (by rfl) ?_ (by assumption) ?_
          rotate_left
          · (intro w hSw; (try dsimp only at hSw); go_simp; try with_reducible rfl)
          try simp only [Act.put, List.setIfInBounds_toArray, List.set_cons_zero, List.set_cons_succ]
          refine held_take (v := ?_) 6 rfl (by kernel_rfl) (by kernel_rfl) (by kernel_rfl) (fun _ _ _ h => h) (by rfl) ?_ (by assumption) ?_
          rotate_left
          · (intro w hSw; (try dsimp only at hSw); go_simp; try with_reducible rfl)
          try simp only [Act.put, List.setIfInBounds_toArray, List.set_cons_zero, List.set_cons_succ]
          refine held_take (v := ?_) 7 rfl (by kernel_rfl) (by kernel_rfl) (by kernel_rfl) (fun _ _ _ h => h) (by rfl) ?_ (by assumption) ?_
          rotate_left
          · (intro w hSw; (try dsimp only at hSw); go_simp; try with_reducible rfl)
          try simp only [Act.put, List.setIfInBounds_toArray, List.set_cons_zero, List.set_cons_succ]
          refine held_take (v := ?_) 8 rfl (by kernel_rfl) (by kernel_rfl) (by kernel_rfl) (fun _ _ _ h => h) (by rfl) ?_ (by assumption) ?_
          rotate_left
          · (intro w hSw; (try dsimp only at hSw); go_simp; try with_reducible rfl)
          try simp only [Act.put, List.setIfInBounds_toArray, List.set_cons_zero, List.set_cons_succ]
          refine held_take (v := ?_) 9 rfl (by kernel_rfl) (by kernel_rfl) (by kernel_rfl) (fun _ _ _ h => h) (by rfl) ?_ (by assumption) ?_
          rotate_left
          · (intro w hSw; (try dsimp only at hSw); go_simp; try with_reducible rfl)
          try simp only [Act.put, List.setIfInBounds_toArray, List.set_cons_zero, List.set_cons_succ]
          refine held_take (v := ?_) 10 rfl (by kernel_rfl) (by kernel_rfl) (by kernel_rfl) (fun _ _ _ h => h) (by rfl) ?_ (by assumption) ?_
          rotate_left
          · (intro w hSw; (try dsimp only at hSw); go_simp; try with_reducible rfl)
          try simp only [Act.put, List.setIfInBounds_toArray, List.set_cons_zero, List.set_cons_succ]
          refine held_take (v := ?_) 12 rfl (by kernel_rfl) (by kernel_rfl) (by kernel_rfl) (fun _ _ _ h => h) (by rfl) ?_ (by assumption) ?_
          rotate_left
          · (intro w hSw; (try dsimp only at hSw); go_simp; try with_reducible rfl)
          try simp only [Act.put, List.setIfInBounds_toArray, List.set_cons_zero, List.set_cons_succ]
          refine held_call2 11 13 (by kernel_rfl) rfl rfl (fun K hK => ?_) (fun K hK => ?_)
          · go_simp
            refine hK.out _ _ ?_ (fun hHeld1 => ?_)
            · first | trivial | ((try dsimp only); (exact q4))
            clear hK K hHeld0
            try simp only [Act.put, List.setIfInBounds_toArray, List.set_cons_zero, List.set_cons_succ]
            refine held_call 13 (by kernel_rfl) rfl (fun K hK => ?_)
            go_simp
            refine hK.out _ _ ?_ (fun hHeld2 => ?_)
            · first | trivial | ((try dsimp only); (exact q4a))
            clear hK K hHeld1
            try simp only [Act.put, List.setIfInBounds_toArray, List.set_cons_zero, List.set_cons_succ]
            refine held_call 14 (by kernel_rfl) rfl (fun K hK => ?_)
            refine step_app (α := Int) (n := yn) (m := 1) (nm := yn + 1) (r := [(n : Int)]) (by rfl) (.tmp 47) (.tmp 49) _ (by rfl) base 3 i0 _ 8 Try.underlying47 hi hz0 hz1 hz2 rfl (by decide) int_one (by rfl) HY.out.2.2.1 HY.out.2.2.2.1 (by rfl) (At.built w2.drew _ _ [(n : Int)] rfl (by intro z hz; simp at hz; subst hz; exact (by unfold I64; omega : I64 (n : Int)))) rfl rfl (by omega) (by simp only [maxLen]; omega) (by show base ≤ (w2.drew.alloc _).heap.size; simp only [World.size_alloc]; show base ≤ w2.heap.size + 1; omega) ?_; intro A5 c5 w5 ho5 hgr5 hat5; have hT5 : Blk w5 T 175 _ := (HY.out.2.2.2.2.1).grown hgr5 (own_ne_ty HY.out.2.2.2.1 HY.out.2.2.2.2.1 (by decide)); have hR5 : Own w5 base 47 (some ⟨gF, 0, none⟩) fc F := HY.out.2.2.2.2.2.1.grown hgr5 (fun g hg' e => own_own_ty HY.out.2.2.2.1 HY.out.2.2.2.2.2.1 (by decide) g e hg'); have q4 := hT5.cell 4 (v := .slice (some ⟨gF, 0, none⟩) F.length fc) rfl; have qf := hR5.frozen (g := gF) rfl c; have qc : w5.cell? ⟨gF, c, none⟩ = some (.slice y.A yn y.c) := by have h0 := hR5.cells_ (g := gF) (o := 0) rfl (c * 1 + 0) (.slice y.A y.l.length y.c) ((flat_get F c 0 y HY.out.2.1 (by decide)).trans rfl); rw [HY.out.2.2.1] at h0; simpa using h0
            refine hK.out _ _ ?_ (fun hHeld3 => ?_)
            · first | trivial | ((try dsimp only); (exact q4))
            clear hK K hHeld2
            try simp only [Act.put, List.setIfInBounds_toArray, List.set_cons_zero, List.set_cons_succ]
            refine held_take (v := ?_) 15 rfl (by kernel_rfl) (by kernel_rfl) (by kernel_rfl) (fun _ _ _ h => h) (by rfl) ?_ (by assumption) ?_
            rotate_left
            · (intro w hSw; (try dsimp only at hSw); go_simp; try with_reducible rfl)
            try simp only [Act.put, List.setIfInBounds_toArray, List.set_cons_zero, List.set_cons_succ]
            refine held_call 16 (by kernel_rfl) rfl (fun K hK => ?_)
            go_simp
            have hTg : T ≠ gF := fun e => own_ne_ty hR5 hT5 (by decide) (by rw [e]; rfl); have q4' := ((hT5.far (p := ⟨gF, c, none⟩) hTg (.slice A5 (yn + 1) c5)).cell 4 (v := .slice (some ⟨gF, 0, none⟩) F.length fc) rfl)
            refine hK.out _ _ ?_ (fun hHeld4 => ?_)
            · first | trivial | ((try dsimp only); (exact q4'))
            clear hK K hHeld3
            try simp only [Act.put, List.setIfInBounds_toArray, List.set_cons_zero, List.set_cons_succ]
            refine wpAnyH_done (by kernel_rfl) ?_ _
            go_wp2_with fail
            go_roundg (m - (j + 1))
            case measure => omega
            case rel =>
              have hF := Tr.pushF HY.out.1 rfl HY.out.2.1 ho5 hgr5 hat5 (by unfold I64; omega : I64 (n : Int))
              rw [HY.out.2.2.1] at hF
              obtain ⟨_, _, _, _, _, _, e1, e2, e3, e4, p1, p2, p3, hE2, hv2⟩ := HY.out
              refine ⟨j + 1, { s2 with fr := s2.fr.set c (y.l ++ [(n : Int)]) }, by omega, rfl, by go_num, ⟨⟨P, O, D, _, fc, _, hF, e1, e2, by rw [map_set_l, e3], e4⟩, p1, HC.out.2.1.2.2.1.trans (hE2.trans p2), fun i k hi hk => ?_⟩, by show tot (s2.fr.set c (y.l ++ [(n : Int)])) + 10 * unv s2.pl ≤ _; omega, by show s2.or.length + unv s2.pl ≤ _; omega, Nat.le_trans hE2.unv ht3, ?_⟩
              · by_cases e : i < j
                · obtain ⟨h1, h2⟩ := HC.out.2.1.2.2.2 i k e hk
                  exact ⟨p2.mono k (hE2.mono k h1), p2.has_ (hE2.has_ h2)⟩
                · obtain rfl : i = j := by omega
                  rw [HC.out.2.2] at hk
                  injection hk with hk
                  obtain rfl : c = k := by omega
                  exact ⟨p2.mono c hv2, p3⟩
              · refine Below.setCell (((hbl.trans (hb2.mono (by omega))).drew.alloc (by show base ≤ w2.heap.size; omega) _).grown hgr5 (by simp only [World.size_alloc]; show base ≤ w2.heap.size + 1; omega) (fun g hg => (HY.out.2.2.2.1.lt g hg).1)) (by simp only; omega) _
          · go_simp
            refine hK.out _ _ ?_ (fun hHeld1 => ?_)
            · first | trivial | ((try dsimp only); (exact q4a))
            clear hK K hHeld0
            try simp only [Act.put, List.setIfInBounds_toArray, List.set_cons_zero, List.set_cons_succ]
            refine held_call 11 (by kernel_rfl) rfl (fun K hK => ?_)
            go_simp
            refine hK.out _ _ ?_ (fun hHeld2 => ?_)
            · first | trivial | ((try dsimp only); (exact q4a))
            clear hK K hHeld1
            try simp only [Act.put, List.setIfInBounds_toArray, List.set_cons_zero, List.set_cons_succ]
            refine held_call 14 (by kernel_rfl) rfl (fun K hK => ?_)
            refine step_app (α := Int) (n := yn) (m := 1) (nm := yn + 1) (r := [(n : Int)]) (by rfl) (.tmp 47) (.tmp 49) _ (by rfl) base 3 i0 _ 8 Try.underlying47 hi hz0 hz1 hz2 rfl (by decide) int_one (by rfl) HY.out.2.2.1 HY.out.2.2.2.1 (by rfl) (At.built w2.drew _ _ [(n : Int)] rfl (by intro z hz; simp at hz; subst hz; exact (by unfold I64; omega : I64 (n : Int)))) rfl rfl (by omega) (by simp only [maxLen]; omega) (by show base ≤ (w2.drew.alloc _).heap.size; simp only [World.size_alloc]; show base ≤ w2.heap.size + 1; omega) ?_; intro A5 c5 w5 ho5 hgr5 hat5; have hT5 : Blk w5 T 175 _ := (HY.out.2.2.2.2.1).grown hgr5 (own_ne_ty HY.out.2.2.2.1 HY.out.2.2.2.2.1 (by decide)); have hR5 : Own w5 base 47 (some ⟨gF, 0, none⟩) fc F := HY.out.2.2.2.2.2.1.grown hgr5 (fun g hg' e => own_own_ty HY.out.2.2.2.1 HY.out.2.2.2.2.2.1 (by decide) g e hg'); have q4 := hT5.cell 4 (v := .slice (some ⟨gF, 0, none⟩) F.length fc) rfl; have qf := hR5.frozen (g := gF) rfl c; have qc : w5.cell? ⟨gF, c, none⟩ = some (.slice y.A yn y.c) := by have h0 := hR5.cells_ (g := gF) (o := 0) rfl (c * 1 + 0) (.slice y.A y.l.length y.c) ((flat_get F c 0 y HY.out.2.1 (by decide)).trans rfl); rw [HY.out.2.2.1] at h0; simpa using h0
            refine hK.out _ _ ?_ (fun hHeld3 => ?_)
            · first | trivial | ((try dsimp only); (exact q4))
            clear hK K hHeld2
            try simp only [Act.put, List.setIfInBounds_toArray, List.set_cons_zero, List.set_cons_succ]
            refine held_take (v := ?_) 15 rfl (by kernel_rfl) (by kernel_rfl) (by kernel_rfl) (fun _ _ _ h => h) (by rfl) ?_ (by assumption) ?_
            rotate_left
            · (intro w hSw; (try dsimp only at hSw); go_simp; try with_reducible rfl)
            try simp only [Act.put, List.setIfInBounds_toArray, List.set_cons_zero, List.set_cons_succ]
            refine held_call 16 (by kernel_rfl) rfl (fun K hK => ?_)
            go_simp
            have hTg : T ≠ gF := fun e => own_ne_ty hR5 hT5 (by decide) (by rw [e]; rfl); have q4' := ((hT5.far (p := ⟨gF, c, none⟩) hTg (.slice A5 (yn + 1) c5)).cell 4 (v := .slice (some ⟨gF, 0, none⟩) F.length fc) rfl)
            refine hK.out _ _ ?_ (fun hHeld4 => ?_)
            · first | trivial | ((try dsimp only); (exact q4'))
            clear hK K hHeld3
            try simp only [Act.put, List.setIfInBounds_toArray, List.set_cons_zero, List.set_cons_succ]
            refine wpAnyH_done (by kernel_rfl) ?_ _
            go_wp2_with fail
            go_roundg (m - (j + 1))
            case measure => omega
            case rel =>
              have hF := Tr.pushF HY.out.1 rfl HY.out.2.1 ho5 hgr5 hat5 (by unfold I64; omega : I64 (n : Int))
              rw [HY.out.2.2.1] at hF
              obtain ⟨_, _, _, _, _, _, e1, e2, e3, e4, p1, p2, p3, hE2, hv2⟩ := HY.out
              refine ⟨j + 1, { s2 with fr := s2.fr.set c (y.l ++ [(n : Int)]) }, by omega, rfl, by go_num, ⟨⟨P, O, D, _, fc, _, hF, e1, e2, by rw [map_set_l, e3], e4⟩, p1, HC.out.2.1.2.2.1.trans (hE2.trans p2), fun i k hi hk => ?_⟩, by show tot (s2.fr.set c (y.l ++ [(n : Int)])) + 10 * unv s2.pl ≤ _; omega, by show s2.or.length + unv s2.pl ≤ _; omega, Nat.le_trans hE2.unv ht3, ?_⟩
              · by_cases e : i < j
                · obtain ⟨h1, h2⟩ := HC.out.2.1.2.2.2 i k e hk
                  exact ⟨p2.mono k (hE2.mono k h1), p2.has_ (hE2.has_ h2)⟩
                · obtain rfl : i = j := by omega
                  rw [HC.out.2.2] at hk
                  injection hk with hk
                  obtain rfl : c = k := by omega
                  exact ⟨p2.mono c hv2, p3⟩
              · refine Below.setCell (((hbl.trans (hb2.mono (by omega))).drew.alloc (by show base ≤ w2.heap.size; omega) _).grown hgr5 (by simp only [World.size_alloc]; show base ≤ w2.heap.size + 1; omega) (fun g hg => (HY.out.2.2.2.1.lt g hg).1)) (by simp only; omega) _
        · obtain rfl : m = j := by omega
          obtain ⟨⟨P, O, D, FA, fc, F, hTr, e1, e2, e3, e4⟩, hI, hE, hch⟩ := hkeep.out
          have hg : sj.grey n := (hE.grey n).2 HX.out.2.2.1
          obtain ⟨L1, L2⟩ := hI.leave hg (fun k l hl hk => by
            rw [HX.out.2.2.2.2.2.2.1] at hl; injection hl with hl; subst hl
            obtain ⟨i, hi, e⟩ := List.mem_iff_getElem.1 hk
            exact hch i k (by omega) (by rw [List.getElem?_eq_getElem hi, e])) (by
              rcases HX.out.2.2.2.2.2.2.2.2.1 with h1 | ⟨p, l, h1, h2, h3⟩
              · exact .inl h1
              · exact .inr ⟨p, l, h1, h2, (hE.grey p).2 ((HX.out.2.2.2.1 p).2 (.inl h3)), fun e => HE.out.2.2.2 (by rw [← e]; exact h3)⟩)
          obtain ⟨on, hon⟩ : ∃ on, O.l.length = on := ⟨_, rfl⟩
          have hon2 : on ≤ 300 := by have h2 := HE.out.2.1; rw [h2] at ht2; rw [e2] at hon; omega
          have q3 := hTr.blk.cell 3 (v := .slice O.A O.l.length O.c) rfl
          rw [hon] at q3
          have hTA : Tr (wr.alloc (.cells #[.int .i64 (n : Int)] 3)) base T (.slice (some ⟨hbk, ho, none⟩) N hc) rv P O D FA fc F := hTr.fresh ((Below.refl wr.heap.size wr).alloc (Nat.le_refl _) _)
          have HY := Lib.hid (And.intro hTA (And.intro hon (And.intro e1 (And.intro e2 (And.intro e3 (And.intro e4 (And.intro hE (And.intro L1 L2)))))))); clear hTA hon e1 e2 e3 e4 hE L1 L2 hI hch hg hkeep hTr
          go_wp2_with (at_builtin; go_must (refine wpList_app (α := Int) (n := on) (m := 1) (B := wr.heap.size + 1) (r := [(n : Int)]) rfl (.tmp 57) (.tmp 59) _ rfl base 3 i0 _ 8 Try.underlying47 hi hz0 hz1 hz2 rfl (by decide) int_one (by rfl) HY.out.2.1 HY.out.1.rowO (by rfl) (At.built wr _ _ [(n : Int)] rfl (by intro z hz; simp at hz; subst hz; exact (by unfold I64; omega : I64 (n : Int)))) rfl (by omega) (by simp only [maxLen]; omega) (by simp; omega) ?_); intro A5 c5 w5 ho5 hgr5 hat5; have hT5 : Blk w5 T 175 _ := HY.out.1.blk.grown hgr5 (own_ne_ty HY.out.1.rowO HY.out.1.blk (by decide)); have q5 := hT5.cell 3 (v := .slice O.A O.l.length O.c) rfl; have z5 := hT5.frozen 3; have H5 := Lib.hid (And.intro ho5 (And.intro hgr5 hat5)); clear ho5 hgr5 hat5 hT5)
          go_end0
          have hF := Tr.pushO HY.out.1 H5.out.1 H5.out.2.1 H5.out.2.2 (by unfold I64; omega : I64 (n : Int))
          rw [HY.out.2.1] at hF
          obtain ⟨_, _, e1, e2, e3, e4, hE, L1, L2⟩ := HY.out
          refine ⟨rfl, ⟨{ sj with or := sj.or ++ [(n : Int)] }, ⟨P, _, D, FA, fc, F, hF, e1, by simp only; rw [e2], e3, e4⟩, L1, ⟨fun k hk => hE.mono k (HX.out.2.1 k hk), fun k => ?_, fun k fl fl' x h1 h2 hx => ?_, hE.fl.trans (by rw [HE.out.2.2.1]), ?_, fun k hk => List.mem_append_left _ (hE.or k (by rw [HE.out.2.1]; exact hk))⟩, hE.mono n HX.out.2.2.1.1, ?_, ?_⟩, ?_⟩
          · rw [L2, hE.grey, HX.out.2.2.2.1]
            constructor
            · rintro ⟨h1 | h1, h2⟩
              · exact h1
              · exact absurd h1 h2
            · intro h1
              exact ⟨.inl h1, fun e => HE.out.2.2.2 (by rw [← e]; exact h1)⟩
          · exact hE.frm k fl fl' x (by rw [HE.out.2.2.1]; exact h1) h2 hx
          · show unv sj.pl ≤ unv s.pl
            omega
          · show tot sj.fr + 10 * unv sj.pl ≤ _
            have h2 := HE.out.2.2.1
            rw [h2] at ht1
            omega
          · show (sj.or ++ [(n : Int)]).length + unv sj.pl ≤ _
            have h2 := HE.out.2.1
            rw [h2] at ht2
            rw [List.length_append, List.length_singleton]
            omega
          · exact ((hbl.alloc (by omega) _).grown H5.out.2.1 (by simp; omega) (fun g hg => ((‹Tr _ _ _ _ _ _ _ _ _ _ _›).rowO.lt g hg).1)).setCell (by simp only; omega) _

end Go.Proofs.Ytpkccpegdpodoaa

/- What the walk leaves, as the rounds see it; the measure of a round. No program is named here. -/
namespace Go.Proofs.Ytpkccpegdpodoaa

/-- the order: place of each -/
def plO (ORD : List Int) (k : Nat) : Nat := ORD.idxOf (k : Int)
structure DT (has : List (List Int)) (roots PL ORD : List Int) (FR : List (List Int)) : Prop where
  lp : PL.length = has.length
  lf : FR.length = has.length
  nd : ORD.Nodup
  mem : ∀ k : Nat, (k : Int) ∈ ORD ↔ Vn has roots k
  nat : ∀ x ∈ ORD, ∃ k : Nat, x = (k : Int)
  pls : ∀ i k : Nat, ORD[i]? = some (k : Int) → PL[k]? = some (i : Int)
  frs : ∀ (m : Nat) fl x, Vn has roots m → FR[m]? = some fl → (x ∈ fl ↔ Frn has roots m x)
  low : ∀ m, Vn has roots m → Frn has roots m (-1) ∨ ∃ p : Nat, Vn has roots p ∧ Frn has roots m (p : Int) ∧ plO ORD p < plO ORD m
  ol : ORD.length ≤ 200

section
variable {has : List (List Int)} {roots PL ORD : List Int} {FR : List (List Int)}
theorem plO_get {k : Nat} (h : (k : Int) ∈ ORD) : ORD[plO ORD k]? = some (k : Int) := by
  unfold plO
  rw [List.getElem?_eq_getElem (List.idxOf_lt_length_of_mem h), List.getElem_idxOf]
theorem plO_of {i k : Nat} (hn : ORD.Nodup) (h : ORD[i]? = some (k : Int)) : plO ORD k = i := by
  have hm : (k : Int) ∈ ORD := List.mem_of_getElem? h
  have h1 := plO_get hm
  obtain ⟨hi, e1⟩ := List.getElem?_eq_some_iff.1 h
  obtain ⟨hj, e2⟩ := List.getElem?_eq_some_iff.1 h1
  have hp := List.pairwise_iff_getElem.1 hn
  rcases Nat.lt_trichotomy (plO ORD k) i with h2 | h2 | h2
  · exact absurd (e2.trans e1.symm) (hp _ _ hj hi h2)
  · exact h2
  · exact absurd (e1.trans e2.symm) (hp _ _ hi hj h2)
theorem DT.gf (h : DT has roots PL ORD FR) (hr : Right has) (hs : RightL has.length roots) : Gf has.length (Vn has roots) (Frn has roots) (plO ORD) :=
  ⟨fun m hm => vn_lt hr hs hm, fun m x _ hx => frn_src hx, fun a b ha hb e => by
    have h1 := plO_get ((h.mem a).2 ha)
    have h2 := plO_get ((h.mem b).2 hb)
    rw [e, h2] at h1; injection h1 with h1; omega, h.low⟩
theorem DT.pl_lt (h : DT has roots PL ORD FR) {k : Nat} (hk : Vn has roots k) : plO ORD k < ORD.length := List.idxOf_lt_length_of_mem ((h.mem k).2 hk)
theorem DT.place (h : DT has roots PL ORD FR) {k : Nat} (hk : Vn has roots k) : PL[k]? = some (plO ORD k : Int) := h.pls _ k (plO_get ((h.mem k).2 hk))

/-- the places, told one by one -/
def plcK (ORD : List Int) (PL : List Int) (i : Nat) : List Int := PL.mapIdx fun k v => if (k : Int) ∈ ORD.take i then (ORD.idxOf (k : Int) : Int) else v
theorem plcK_zero (PL : List Int) : plcK ORD PL 0 = PL := by
  unfold plcK
  apply List.ext_getElem?; intro j
  rw [List.getElem?_mapIdx]
  cases PL[j]? <;> simp
theorem plcK_length (i : Nat) : (plcK ORD PL i).length = PL.length := by simp [plcK]
theorem plcK_step (hn : ORD.Nodup) {i n : Nat} (h : ORD[i]? = some (n : Int)) (hlt : n < PL.length) : plcK ORD PL (i + 1) = (plcK ORD PL i).set n (i : Int) := by
  apply List.ext_getElem?; intro j
  rw [List.getElem?_set]
  have hi : ORD.idxOf (n : Int) = i := plO_of hn h
  by_cases e : n = j
  · subst e
    rw [if_pos rfl, if_pos (by rw [plcK_length]; exact hlt)]
    unfold plcK
    rw [List.getElem?_mapIdx, List.getElem?_eq_getElem hlt]
    simp only [Option.map_some]
    rw [if_pos (by rw [List.take_add_one, h]; simp), hi]
  · rw [if_neg e]
    unfold plcK
    rw [List.getElem?_mapIdx, List.getElem?_mapIdx]
    cases hj : PL[j]? with
    | none => rfl
    | some v =>
      simp only [Option.map_some]
      have : ((j : Int) ∈ ORD.take (i + 1)) ↔ ((j : Int) ∈ ORD.take i) := by
        rw [List.take_add_one, h, List.mem_append]
        constructor
        · rintro (h1 | h1)
          · exact h1
          · simp at h1; omega
        · exact .inl
      simp only [this]
/-- behind the walk and the turning round -/
theorem DT.of {s : WS} (hr : Right has) (hs : RightL has.length roots) (h : WInv has roots s) (hg : ∀ k, ¬ s.grey k) (hroots : ∀ r : Nat, (r : Int) ∈ roots → s.vis r ∧ ∀ fl, s.fr[r]? = some fl → (-1 : Int) ∈ fl) (hol : s.or.length ≤ 200) :
    DT has roots (plcK s.or.reverse s.pl s.or.reverse.length) s.or.reverse s.fr := by
  have vis_in : ∀ k, s.vis k → (k : Int) ∈ s.or := fun k hk => Decidable.byContradiction fun hh => hg k ⟨hk, hh⟩
  have all : ∀ k, Vn has roots k → s.vis k := fun k hk => by
    induction hk with
    | root h1 => exact (hroots _ h1).1
    | edge h1 h2 h3 ih => exact (h.cl _ _ _ (vis_in _ ih) h2 h3).1
    | pair _ h1 => simp at h1
  have nd : s.or.reverse.Nodup := List.pairwise_reverse.2 (h.nd.imp fun hh => Ne.symm hh)
  refine ⟨by rw [plcK_length]; exact h.lp, h.lf, nd, fun k => ?_, fun x hx => ?_, fun i k hi => ?_, fun m fl x hm hfl => ?_, fun m hm => ?_, by simpa using hol⟩
  · rw [List.mem_reverse]
    constructor
    · intro hk
      obtain ⟨j, e, hv⟩ := h.on _ hk
      obtain rfl : k = j := by omega
      exact h.vr k hv
    · intro hk; exact vis_in k (all k hk)
  · rw [List.mem_reverse] at hx
    obtain ⟨j, e, -⟩ := h.on _ hx
    exact ⟨j, e⟩
  · have hm := List.mem_of_getElem? hi
    have hk : (k : Int) ∈ s.or := List.mem_reverse.1 hm
    obtain ⟨j, e, hv⟩ := h.on _ hk
    obtain rfl : k = j := by omega
    unfold plcK
    unfold WS.vis at hv
    rw [List.getElem?_mapIdx, hv]
    simp only [Option.map_some]
    rw [if_pos (by rw [List.take_of_length_le (Nat.le_refl _)]; exact hm)]
    have := plO_of nd hi
    unfold plO at this
    rw [this]
  · constructor
    · intro hx
      rcases h.fs m fl x hfl hx with ⟨e, h1⟩ | ⟨n, l, e, hv, h1, h2⟩
      · exact .inl ⟨e, h1⟩
      · exact .inr ⟨n, l, e, h.vr n hv, h1, h2⟩
    · rintro (⟨rfl, h1⟩ | ⟨n, l, rfl, hv, h1, h2⟩)
      · exact (hroots m h1).2 fl hfl
      · exact (h.cl n m l (vis_in n (all n hv)) h1 h2).2 fl hfl
  · have hin := vis_in m (all m hm)
    rcases h.par m hin with h1 | ⟨p, l, h1, h2, h3, h4, h5⟩
    · exact .inl (.inl ⟨rfl, h1⟩)
    · refine .inr ⟨p, h.vr p h3, .inr ⟨p, l, rfl, h.vr p h3, h1, h2⟩, ?_⟩
      obtain ⟨a, b, e⟩ := List.append_of_mem hin
      have hpa := h5 a b e
      have hpb : (p : Int) ∈ b := by
        have := vis_in p h3
        rw [e, List.mem_append, List.mem_cons] at this
        rcases this with h6 | h6 | h6
        · exact absurd h6 hpa
        · omega
        · exact h6
      have hnm : (m : Int) ∉ b := fun hmb => by
        have := h.nd; rw [e, List.nodup_append] at this
        have h7 := this.2.1; rw [List.nodup_cons] at h7; exact h7.1 hmb
      have er : s.or.reverse = b.reverse ++ ((m : Int) :: a.reverse) := by rw [e]; simp
      unfold plO
      rw [er, List.idxOf_append, List.idxOf_append, if_pos (by simpa using hpb), if_neg (by simpa using hnm)]
      have : List.idxOf (p : Int) b.reverse < b.reverse.length := List.idxOf_lt_length_of_mem (by simpa using hpb)
      omega

/-- how far all are -/
def mu (ORD d : List Int) : Nat := (d.map (rkO (plO ORD))).sum
theorem mu_set {d : List Int} : ∀ {n : Nat} {a b : Int}, d[n]? = some b → rkO (plO ORD) a < rkO (plO ORD) b → mu ORD (d.set n a) < mu ORD d := by
  unfold mu
  induction d with
  | nil => intro n a b h; simp at h
  | cons y d ih =>
    intro n a b h hlt
    match n, h with
    | 0, h => simp at h; subst h; simp; omega
    | n + 1, h =>
      simp only [List.getElem?_cons_succ] at h
      have := ih h hlt
      simp only [List.set_cons_succ, List.map_cons, List.sum_cons]; omega
def FixAt (has : List (List Int)) (roots d : List Int) (m : Nat) : Prop := ∀ b z, d[m]? = some b → Ch d b z → ∀ x, Frn has roots m x → Ch d x z
abbrev DvG (has : List (List Int)) (roots ORD d : List Int) (i : Nat) : Prop := Dv has.length (Vn has roots) (Frn has roots) (plO ORD) (SDn has roots) d i
/-- the meet over those that have n, so far -/
def MeetK (has : List (List Int)) (roots d fl : List Int) (j : Nat) (a : Int) : Prop := (a = -2 ∨ Ok (Vn has roots) d a) ∧ ∀ z, Ch d a z ↔ ∀ x ∈ fl.take j, Ch d x z
theorem MeetK.zero {d fl : List Int} : MeetK has roots d fl 0 (-2) := ⟨.inl rfl, fun z => ⟨fun _ x hx => by simp at hx, fun _ => .top⟩⟩
theorem MeetK.next {d fl : List Int} {j : Nat} {a c x : Int} (h : MeetK has roots d fl j a) (hx : fl[j]? = some x) (hc : c = -2 ∨ Ok (Vn has roots) d c) (hm : ∀ z, Ch d c z ↔ Ch d a z ∧ Ch d x z) : MeetK has roots d fl (j + 1) c := by
  refine ⟨hc, fun z => ?_⟩
  rw [hm z, h.2 z, List.take_add_one, hx]
  constructor
  · rintro ⟨h1, h2⟩ y hy
    rcases List.mem_append.1 hy with hy | hy
    · exact h1 y hy
    · simp at hy; subst hy; exact h2
  · intro h1
    exact ⟨fun y hy => h1 y (List.mem_append_left _ hy), h1 x (by simp)⟩
/-- the meet over all that have n is told, and lies further up -/
theorem MeetK.whole {d fl : List Int} {a : Int} {n i : Nat} (hdt : DT has roots PL ORD FR) (hd : DvG has roots ORD d i) (hn : Vn has roots n) (hi : plO ORD n = i) (hfl : FR[n]? = some fl) (h : MeetK has roots d fl fl.length a) :
    Ok (Vn has roots) d a ∧ (∀ c : Nat, a = (c : Int) → plO ORD c < plO ORD n) ∧ ∀ z, Ch d a z ↔ ∀ x, Frn has roots n x → Ch d x z := by
  have hm : ∀ z, Ch d a z ↔ ∀ x, Frn has roots n x → Ch d x z := fun z => by
    rw [h.2 z, List.take_of_length_le (Nat.le_refl _)]
    exact ⟨fun h1 x hx => h1 x ((hdt.frs n fl x hn hfl).2 hx), fun h1 x hx => h1 x ((hdt.frs n fl x hn hfl).1 hx)⟩
  have key : ∀ z, Ch d a z → plO ORD z < plO ORD n := fun z hz => by
    have h1 := (hm z).1 hz
    rcases hdt.low n hn with h0 | ⟨p, hp, hfp, hlt⟩
    · exact absurd (h1 _ h0) (fun hh => hh.nobody)
    · have := (hd.chain (h1 _ hfp) (.inr ⟨p, rfl, hp, hd.done p hp (by omega)⟩)).2.2 p rfl
      omega
  refine ⟨?_, fun c e => ?_, hm⟩
  · rcases h.1 with e | e
    · exfalso
      subst e
      have := key n .top
      omega
    · exact e
  · subst e; exact key c .here
end
end Go.Proofs.Ytpkccpegdpodoaa

/- weak: all that is reached; numbers of those that are so; what is wrong with a graph. -/
namespace Go.Proofs.Ytpkccpegdpodoaa
open Go.RowKit

attribute [local go_sem ↓] Go.wp_at_zero Go.wp_at_succ

theorem At.get_ {α : Type} [Enc α] {w : World} {B : Nat} {A : Option Addr} {l : List α} {k : Nat} {x : α} (h : At w B A l) (hx : l[k]? = some x) : ∃ b o cs, A = some ⟨b, o, none⟩ ∧ b < B ∧ CellsAt w b (o + k * Enc.sz α) cs ∧ Enc.rd w B cs x := h k x hx

set_option maxHeartbeats 1600000 in
set_option maxRecDepth 100000 in
theorem reachAll_any (R base B hc rc hn rn : Nat) (HA RA : Option Addr) (has : List (List Int)) (src : List Int) (pairs : List (Int × Int)) (seen : List Bool) (todo : List Int) (w : World) (h : Rch w base R (.slice HA has.length hc) (.slice RA rn rc) seen todo) (hh : At w B HA has) (hB : B ≤ base)
    (hright : Right has) (hinv : Inv has src pairs [] seen todo) (hlen : has.length ≤ 1000) (htl : todo.length ≤ 10000) (hhl : ∀ l ∈ has, l.length ≤ 1000) :
    Calls Try.prog 169 #[.pointer (some ⟨R, 0, none⟩)] w fun e w' => e = .returned (.tuple #[]) ∧ (∃ seen', Rch w' base R (.slice HA has.length hc) (.slice RA rn rc) seen' [] ∧ Inv has src pairs [] seen' [] ∧ Grows seen seen') ∧ Below base w w' := by
  have HH := Lib.hid hh; clear hh
  have HR := Lib.hid hright; clear hright
  have HHL := Lib.hid hhl; clear hhl
  have hun := unseen_le seen
  have hsl := hinv.len
  have HST := Lib.hid (And.intro h hinv); clear h hinv
  go_enter Try.func169, Try.ntmps169
  go_wp2_with fail
  go_loopg [] (2 * unseen seen + todo.length) (fun gk wr => ∃ (s1 : List Bool) (t1 : List Int), gk = 2 * unseen s1 + t1.length ∧ 2 * unseen s1 + t1.length ≤ 2 * unseen seen + todo.length ∧ Hid (Rch wr base R (.slice HA has.length hc) (.slice RA rn rc) s1 t1 ∧ Inv has src pairs [] s1 t1 ∧ Grows seen s1) ∧ Below base w wr)
  case atStart => exact ⟨seen, todo, rfl, Nat.le_refl _, ⟨HST.out.1, HST.out.2, Grows.refl _⟩, Below.refl _ _⟩
  case round =>
    obtain ⟨s1, t1, rfl, hle, hkeep, hbl⟩ := hrel
    obtain ⟨k1, k2, k3⟩ := hkeep.out
    obtain ⟨S, T, c, d, r1, r2, r3, r4⟩ := k1
    have hRlt := r1.lt
    have q3 := r1.cell 3 rfl
    have z3 := r1.frozen 3
    by_cases hlt : 0 < t1.length
    · obtain ⟨t0, x, rfl⟩ : ∃ t0 x, t1 = t0 ++ [x] := ⟨t1.dropLast, t1.getLast (List.ne_nil_of_length_pos hlt), (List.dropLast_concat_getLast _).symm⟩
      obtain ⟨n, rfl, hn⟩ := k2.todo_ x (by simp)
      have hnl : n < has.length := by rw [← k2.len]; exact (List.getElem?_eq_some_iff.1 hn).1
      obtain ⟨l, hl⟩ : ∃ l, has[n]? = some l := ⟨_, List.getElem?_eq_getElem hnl⟩
      have hstep := k2.step HR.out (l := l) (by simpa using hl)
      have htlen : (t0 ++ [(n : Int)]).length = t0.length + 1 := by simp
      rw [htlen] at q3 hle hstep
      obtain ⟨g, rfl, hg1, hg2⟩ := r3.some_ (by omega)
      have ct := r3.cell_int (i := t0.length) (b := (n : Int)) (by simp)
      have hcap := r3.le_cap.1
      rw [htlen] at hcap
      have r3' := r3.take_ t0.length (by omega)
      rw [List.take_left' rfl] at r3'
      have hll := HHL.out l (List.mem_of_getElem? hl)
      have hrl : RightL s1.length l := fun y hy => by obtain ⟨k, h1, h2⟩ := HR.out l (List.mem_of_getElem? hl) y hy; exact ⟨k, h1, by rw [k2.len]; exact h2⟩
      have hs1l := k2.len
      have HK := Lib.hid (And.intro r1 (And.intro r2 (And.intro r3' (And.intro hstep (And.intro k3 (And.intro hl (And.intro hrl hs1l)))))))
      have htl0 : t0.length + 1 ≤ d := hcap
      have w1 : (0 : Int) ≤ ((t0.length : Int) + 1) - 1 := by omega
      clear r1 r2 r3 r3' hstep k3 k2 hrl htlen hn hl hkeep
      go_wp2_with fail
      have hwr : IntKind.i64.wrap ((t0.length : Int) + 1 - 1) = (t0.length : Int) := by rw [IntWalk.i64_in _ (by omega)]; omega
      have w2 : (0 : Int) ≤ (t0.length : Int) := by omega
      have w3 : (t0.length : Int) < (t0.length : Int) + 1 := by omega
      have w4 : (t0.length : Int) ≤ (t0.length : Int) + 1 := by omega
      go_quiet (fail)
      go_wp2_with fail
      have w5 : t0.length ≤ d := by omega
      refine wp_world (fun W => Blk W R 214 #[.slice HA has.length hc, .slice RA rn rc, .slice S s1.length c, .slice (some ⟨g, 0, none⟩) (t0.length + 1) d] ∧ Own W base 4 S c s1 ∧ Own W base 3 (some ⟨g, 0, none⟩) d t0 ∧ Below base w W) ⟨by have := HK.out.1.drewN; simp only [List.length_append, List.length_singleton] at this; exact this _, HK.out.2.1.drewN _, HK.out.2.2.1.drewN _, below_drewN hbl _⟩ ?_
      rintro W ⟨m1, m2, m3, m4⟩
      have p3 := m1.cell 3 rfl
      have p0 := m1.cell 0 rfl
      obtain ⟨b, o, l', A', c', rfl, hb, hl2, hcell, hat', hlc, hmx⟩ := (HH.out.below (m4.mono hB)).slice_ hnl
      rw [HK.out.2.2.2.2.2.1] at hl2; injection hl2 with hl2; subst hl2
      have hbR : b < R := by omega
      have hbR2 : b ≠ R := by omega
      have pz := m1.frozen 3
      have n1 := own_ne_ty m2 m1 (by decide)
      have n2 := own_ne_ty m3 m1 (by decide)
      have HW := Lib.hid (And.intro (m1.set_ 3 (.slice (some ⟨g, 0, none⟩) t0.length d)) (And.intro (m2.setCell ⟨R, 3, none⟩ (.slice (some ⟨g, 0, none⟩) t0.length d) n1) (And.intro (m3.setCell ⟨R, 3, none⟩ (.slice (some ⟨g, 0, none⟩) t0.length d) n2) (m4.setCell (p := ⟨R, 3, none⟩) r4 (.slice (some ⟨g, 0, none⟩) t0.length d)))))
      have hnl0 : (0 : Int) ≤ (n : Int) := by omega
      have hnl1 : (n : Int) < (has.length : Int) := by omega
      have hcap2 : b ≠ R := by omega
      clear m1 m2 m3 m4 n1 n2 q3 z3
      have hwr2 : IntKind.i64.wrap (t0.length : Int) = (t0.length : Int) := IntWalk.i64_in _ (by clear hwr; omega)
      go_still_tail 14, (by kernel_rfl)
      clear hwr hwr2
      change wpList _ _ _ _ _ (World.drew _)
      go_wp2_with fail
      have hRch : Rch (W.setCell ⟨R, 3, none⟩ (.slice (some ⟨g, 0, none⟩) t0.length d)).drew base R (.slice (some ⟨b, o, none⟩) has.length hc) (.slice RA rn rc) s1 t0 := ⟨S, some ⟨g, 0, none⟩, c, d, by have := HW.out.1.drew; simpa using this, HW.out.2.1.drew, HW.out.2.2.1.drew, r4⟩
      have hat2 : At (W.setCell ⟨R, 3, none⟩ (.slice (some ⟨g, 0, none⟩) t0.length d)).drew B A' l := (hat'.setCell (p := ⟨R, 3, none⟩) (by simp; omega) _).drew
      have hll := HHL.out l (List.mem_of_getElem? HK.out.2.2.2.2.2.1)
      refine (reach_old R base B c' A' _ _ s1 t0 l _ hRch hat2 hB HK.out.2.2.2.2.2.2.1 (by omega) (by omega)).mono ?_
      rintro e w8 ⟨rfl, hr8, hb8⟩
      have hb8' : Below base W w8 := (((Below.refl _ _).setCell (p := ⟨R, 3, none⟩) r4 _).drew).trans hb8
      have HR8 := Lib.hid (And.intro hr8 (HW.out.2.2.2.trans (undrew hb8))); clear hr8 hRch hat2 hat' hb8 hb8'
      obtain ⟨s2, t2, hst⟩ : ∃ s2 t2, reachL l (s1, t0) = (s2, t2) := ⟨_, _, rfl⟩
      rw [hst] at HR8
      have HSS := HK.out.2.2.2.1
      rw [hst] at HSS
      have hms : 2 * unseen s2 + t2.length < 2 * unseen s1 + (t0.length + 1) := HSS.2.2
      have HS2 := Lib.hid HSS; clear HSS hst
      go_wp2_with fail
      go_roundg (2 * unseen s2 + t2.length)
      case measure => first | omega | (rw [List.length_append, List.length_singleton]; omega)
      case rel => exact ⟨s2, t2, rfl, by omega, ⟨HR8.out.1, HS2.out.1, HK.out.2.2.2.2.1.trans HS2.out.2.1⟩, HR8.out.2⟩
    · obtain rfl : t1 = [] := List.eq_nil_of_length_eq_zero (by omega)
      have HK := Lib.hid (And.intro r1 (And.intro r2 (And.intro r3 (And.intro k2 k3)))); clear r1 r2 r3 k2 k3 hkeep
      go_wp2_with fail
      go_end0
      obtain ⟨f1, f2, f3, f4, f5⟩ := HK.out
      exact ⟨rfl, ⟨s1, ⟨S, T, c, d, f1, f2, f3, r4⟩, f4, f5⟩, hbl⟩

end Go.Proofs.Ytpkccpegdpodoaa

/- slices.Sort at a row of the call's own. -/
namespace Go.Proofs.Ytpkccpegdpodoaa
open Go.RowKit Go.Sort Go.Shelf

def srtL_ren : Go.Shelf.Ren := ⟨fun | 5 => 162 | 8 => 192 | 7 => 191 | 19 => 212 | 20 => 213 | 10 => 203 | 11 => 204 | 12 => 205 | 13 => 206 | 14 => 207 | 15 => 208 | 16 => 209 | 17 => 210 | 18 => 211 | 30 => 216 | 31 => 217 | 32 => 218 | 33 => 219 | 34 => 220 | 35 => 221 | 40 => 222 | n => n, fun | 23 => 47 | 25 => 3 | 3 => 3 | 32 => 141 | 22 => 47 | 0 => 0 | 44 => 140 | 46 => 24 | 4 => 4 | 36 => 235 | 35 => 234 | 41 => 196 | 5 => 5 | 9 => 9 | 53 => 245 | 57 => 249 | 63 => 251 | 64 => 137 | n => n, fun | n => n⟩
theorem srtL : Go.Proofs.SlLaysM.n5 Try.prog srtL_ren := {
  mixed := by kernel_rfl
  f5 := ⟨Try.f162.name, by decide, Try.func162.trans (congrArg some (by kernel_rfl))⟩
  f7 := ⟨Try.f191.name, by decide, Try.func191.trans (congrArg some (by kernel_rfl))⟩
  f8 := Try.func192.trans (congrArg some (by kernel_rfl))
  f10 := ⟨Try.f203.name, by decide, Try.func203.trans (congrArg some (by kernel_rfl))⟩
  f11 := ⟨Try.f204.name, by decide, Try.func204.trans (congrArg some (by kernel_rfl))⟩
  f12 := ⟨Try.f205.name, by decide, Try.func205.trans (congrArg some (by kernel_rfl))⟩
  f13 := ⟨Try.f206.name, by decide, Try.func206.trans (congrArg some (by kernel_rfl))⟩
  f14 := ⟨Try.f207.name, by decide, Try.func207.trans (congrArg some (by kernel_rfl))⟩
  f15 := ⟨Try.f208.name, by decide, Try.func208.trans (congrArg some (by kernel_rfl))⟩
  f16 := ⟨Try.f209.name, by decide, Try.func209.trans (congrArg some (by kernel_rfl))⟩
  f17 := ⟨Try.f210.name, by decide, Try.func210.trans (congrArg some (by kernel_rfl))⟩
  f18 := ⟨Try.f211.name, by decide, Try.func211.trans (congrArg some (by kernel_rfl))⟩
  f19 := Try.func212.trans (congrArg some (by kernel_rfl))
  f20 := Try.func213.trans (congrArg some (by kernel_rfl))
  f30 := ⟨Try.f216.name, by decide, Try.func216.trans (congrArg some (by kernel_rfl))⟩
  f31 := Try.func217.trans (congrArg some (by kernel_rfl))
  f32 := Try.func218.trans (congrArg some (by kernel_rfl))
  f33 := ⟨Try.f219.name, by decide, Try.func219.trans (congrArg some (by kernel_rfl))⟩
  f34 := ⟨Try.f220.name, by decide, Try.func220.trans (congrArg some (by kernel_rfl))⟩
  f35 := ⟨Try.f221.name, by decide, Try.func221.trans (congrArg some (by kernel_rfl))⟩
  f40 := ⟨Try.f222.name, by decide, Try.func222.trans (congrArg some (by kernel_rfl))⟩
  t0 := Try.underlying0
  a0 := Try.isAgg0
  z0 := Try.sizeOf0
  v0 := Try.zeroValue0
  t3 := Try.underlying3
  a3 := Try.isAgg3
  z3 := Try.sizeOf3
  v3 := Try.zeroValue3
  t4 := Try.underlying4
  a4 := Try.isAgg4
  z4 := Try.sizeOf4
  v4 := Try.zeroValue4
  t5 := Try.underlying5
  a5 := Try.isAgg5
  z5 := Try.sizeOf5
  v5 := Try.zeroValue5
  t9 := Try.underlying9
  a9 := Try.isAgg9
  z9 := Try.sizeOf9
  v9 := Try.zeroValue9
  t22 := Try.underlying47
  a22 := Try.isAgg47
  z22 := Try.sizeOf47
  v22 := Try.zeroValue47
  t23 := Try.underlying47
  a23 := Try.isAgg47
  z23 := Try.sizeOf47
  v23 := Try.zeroValue47
  t25 := Try.underlying3
  a25 := Try.isAgg3
  z25 := Try.sizeOf3
  v25 := Try.zeroValue3
  t32 := Try.underlying141
  a32 := Try.isAgg141
  z32 := Try.sizeOf141
  v32 := Try.zeroValue141
  t35 := Try.underlying234
  a35 := Try.isAgg234
  z35 := Try.sizeOf234
  v35 := Try.zeroValue234
  t36 := Try.underlying235
  a36 := Try.isAgg235
  z36 := Try.sizeOf235
  v36 := Try.zeroValue235
  t41 := Try.underlying196
  a41 := Try.isAgg196
  z41 := Try.sizeOf196
  v41 := Try.zeroValue196
  t44 := Try.underlying140
  a44 := Try.isAgg140
  z44 := Try.sizeOf140
  v44 := Try.zeroValue140
  t46 := Try.underlying24
  a46 := Try.isAgg24
  z46 := Try.sizeOf24
  v46 := Try.zeroValue24
  t53 := Try.underlying245
  a53 := Try.isAgg245
  z53 := Try.sizeOf245
  v53 := Try.zeroValue245
  t57 := Try.underlying249
  a57 := Try.isAgg249
  z57 := Try.sizeOf249
  v57 := Try.zeroValue249
  t63 := Try.underlying251
  a63 := Try.isAgg251
  z63 := Try.sizeOf251
  v63 := Try.zeroValue251
  t64 := Try.underlying137
  a64 := Try.isAgg137
  z64 := Try.sizeOf137
  v64 := Try.zeroValue137 }

theorem flat_ints (l : List Int) : flat l = l.map (Value.int .i64) := by
  induction l with
  | nil => rfl
  | cons x l ih => rw [flat_cons, ih]; rfl
theorem sort_own (w : World) (base n : Nat) (A : Option Addr) (c : Nat) (l : List Int) (hn : l.length = n) (h100 : n ≤ 1000000) (h : Own w base 3 A c l) :
    Calls Try.prog 162 #[.slice A n c] w fun e w' => e = .returned (.tuple #[]) ∧ Own w' base 3 A c (l.mergeSort fun x y => decide (x ≤ y)) ∧ w.grownBy w' (rowOf A) := by
  subst hn
  rcases h.2 with ⟨h1, h0⟩ | ⟨g, cap, cur, hv, hg, hh, hn, hcap, hsz, htk⟩
  · injection h1 with h1 h2 h3
    subst h1 h3
    have hl : l = [] := List.length_eq_zero_iff.1 h2
    subst hl
    have hcon := AnyM.slices_Sort_int_none srtL none 0 w
    change Calls Try.prog 162 _ _ _ at hcon
    refine hcon.mono ?_
    rintro e w' ⟨rfl, rfl⟩
    exact ⟨rfl, by simpa using h, World.grownBy.refl _ _⟩
  · injection hv with hv h2 h3
    subst hv h3
    have hlt := (Array.getElem?_eq_some_iff.1 hh).1
    have htk' : cur.toList.take l.length = l.map (Value.int .i64) := by rw [← flat_ints, ← htk, show Flat.sz Int = 1 from rfl, Nat.mul_one]
    have hcon := AnyM.slices_Sort_int srtL g 0 c l w (holds_of_blockI hh htk') hlt (by omega)
    change Calls Try.prog 162 _ _ _ at hcon
    refine hcon.mono ?_
    rintro e w' ⟨rfl, m, os, rfl⟩
    refine ⟨rfl, ?_, grownBy_sortedI _⟩
    have hl : (l.mergeSort fun x y => decide (x ≤ y)).length = l.length := List.length_mergeSort _
    have := ownsRow_sortedI (n := m) (os := os) (ts := l.mergeSort fun x y => decide (x ≤ y)) hl hg hh hn hcap hsz
    unfold Own
    rw [flat_ints, hl]
    exact this

end Go.Proofs.Ytpkccpegdpodoaa

/- slices.Reverse at an own row; owns.tree.meet. -/
namespace Go.Proofs.Ytpkccpegdpodoaa
open Go.RowKit Go.Sort Go.Shelf

attribute [local go_sem ↓] Go.wp_at_zero Go.wp_at_succ

def revL_ren : Go.Shelf.Ren := ⟨fun | 35 => 173 | n => n, fun | 22 => 47 | 23 => 3 | 3 => 3 | 4 => 4 | 0 => 0 | n => n, fun | n => n⟩
theorem revL : Go.Proofs.SlLaysN.n35 Try.prog revL_ren := {
  mixed := by kernel_rfl
  f35 := ⟨Try.f173.name, by decide, Try.func173.trans (congrArg some (by kernel_rfl))⟩
  t0 := Try.underlying0
  a0 := Try.isAgg0
  z0 := Try.sizeOf0
  v0 := Try.zeroValue0
  t3 := Try.underlying3
  a3 := Try.isAgg3
  z3 := Try.sizeOf3
  v3 := Try.zeroValue3
  t4 := Try.underlying4
  a4 := Try.isAgg4
  z4 := Try.sizeOf4
  v4 := Try.zeroValue4
  t22 := Try.underlying47
  a22 := Try.isAgg47
  z22 := Try.sizeOf47
  v22 := Try.zeroValue47
  t23 := Try.underlying3
  a23 := Try.isAgg3
  z23 := Try.sizeOf3
  v23 := Try.zeroValue3 }

theorem reverse_own (w : World) (base n : Nat) (A : Option Addr) (c : Nat) (l : List Int) (hn : l.length = n) (h100 : n ≤ 1000000) (h : Own w base 3 A c l) :
    Calls Try.prog 173 #[.slice A n c] w fun e w' => e = .returned (.tuple #[]) ∧ Own w' base 3 A c l.reverse ∧ w.grownBy w' (rowOf A) := by
  subst hn
  rcases h.2 with ⟨h1, h0⟩ | ⟨g, cap, cur, hv, hg, hh, hn, hcap, hsz, htk⟩
  · injection h1 with h1 h2 h3
    subst h1 h3
    have hl : l = [] := List.length_eq_zero_iff.1 h2
    subst hl
    have hcon := AnyG.slices_Reverse_int_empty revL none 0 w
    change Calls Try.prog 173 _ _ _ at hcon
    refine hcon.mono ?_
    rintro e w' ⟨rfl, rfl⟩
    exact ⟨rfl, by simpa using h, World.grownBy.refl _ _⟩
  · injection hv with hv h2 h3
    subst hv h3
    have hlt := (Array.getElem?_eq_some_iff.1 hh).1
    have htk' : cur.toList.take l.length = l.map (Value.int .i64) := by rw [← flat_ints, ← htk, show Flat.sz Int = 1 from rfl, Nat.mul_one]
    have hcon := AnyG.slices_Reverse_int revL g 0 c l w (holds_of_blockI hh htk') (by omega)
    change Calls Try.prog 173 _ _ _ at hcon
    refine hcon.mono ?_
    rintro e w' ⟨rfl, m, rfl⟩
    have hl : l.reverse.length = l.length := List.length_reverse
    have hgn : ∀ v : World, grow v #[] = v := fun v => by simp [grow]
    rw [← hgn (putRow _ _ _ _ _)]
    refine ⟨rfl, ?_, grownBy_sortedI _⟩
    have := ownsRow_sortedI (n := m) (os := #[]) (ts := l.reverse) hl hg hh hn hcap hsz
    unfold Own
    rw [flat_ints, hl]
    exact this

/-- the first part of a measure: how far up -/
def rkM (pl : Nat → Nat) (x : Int) : Nat := if x = -1 then 0 else pl x.toNat + 1

set_option maxHeartbeats 1600000 in
set_option maxRecDepth 100000 in
theorem meet_any (has : List (List Int)) (roots PL ORD : List Int) (FR : List (List Int)) (d : List Int) (i : Nat) (hdt : DT has roots PL ORD FR) (hd : DvG has roots ORD d i) (hr : Right has) (hs : RightL has.length roots) (hN : has.length ≤ 100)
    (base T : Nat) (hv rv : Value) (a b : Int) (ha : Ok (Vn has roots) d a) (hb : Ok (Vn has roots) d b) (w : World) (hbw : base ≤ w.heap.size) (hT : TrS w base T hv rv d ⟨PL, ORD, FR⟩) :
    Calls Try.prog 194 #[.pointer (some ⟨T, 0, none⟩), .int .i64 a, .int .i64 b] w fun e w' => (∃ c, e = .returned (.int .i64 c) ∧ Ok (Vn has roots) d c ∧ ∀ z, Ch d c z ↔ Ch d a z ∧ Ch d b z) ∧ Below w.heap.size w w' := by
  obtain ⟨P, O, D, FA, fc, F, hTr, e1, e2, e3, e4⟩ := hT
  simp only at e1 e2 e3
  have hg := hdt.gf hr hs
  obtain ⟨N, hNe⟩ : ∃ N, has.length = N := ⟨_, rfl⟩
  have hPN : P.l.length = N := by rw [e1, hdt.lp]; exact hNe
  have hDN : D.l.length = N := by rw [e4, hd.len]; exact hNe
  have hol := hdt.ol
  have HX := Lib.hid (And.intro hdt (And.intro hd (And.intro hTr (And.intro e1 (And.intro e4 (And.intro hg (And.intro hNe (And.intro hPN (And.intro hDN (And.intro hr hs)))))))))); clear hdt hd hTr e1 e2 e3 e4 hg hr hs
  have hN' : N ≤ 100 := by omega
  clear hNe hN
  have HA := Lib.hid (And.intro ha hb); clear ha hb
  go_enter Try.func194, Try.ntmps194
  go_wp2_with fail
  go_loopg [1, 2] (rkM (plO ORD) a + rkM (plO ORD) b) (fun gk av bv wr => ∃ (x y : Int), gk = rkM (plO ORD) x + rkM (plO ORD) y ∧ av = .int .i64 x ∧ bv = .int .i64 y ∧ Hid (Ok (Vn has roots) d x ∧ Ok (Vn has roots) d y ∧ ∀ z, (Ch d x z ∧ Ch d y z) ↔ (Ch d a z ∧ Ch d b z)) ∧ Below w.heap.size w wr)
  case atStart => exact ⟨a, b, rfl, rfl, rfl, ⟨HA.out.1, HA.out.2, fun z => Iff.rfl⟩, Below.refl _ _⟩
  case round =>
    obtain ⟨x, y, hgk, rfl, rfl, hkeep, hbl⟩ := hrel
    by_cases hxy : x = y
    · subst hxy
      have HK := Lib.hid hkeep.out; clear hkeep
      go_wp2_with fail
      go_ret
      exact ⟨⟨x, rfl, HK.out.1, fun z => ⟨fun h => (HK.out.2.2 z).1 ⟨h, h⟩, fun h => ((HK.out.2.2 z).2 h).1⟩⟩, hbl⟩
    · have d0 : (x != y) = true := by simpa using hxy
      rcases hkeep.out.1 with rfl | ⟨m, rfl, hm1, hm2⟩
      · have HK := Lib.hid (And.intro hkeep.out hxy); clear hkeep hxy
        go_wp2_with fail
        go_ret
        exact ⟨⟨-1, rfl, .inl rfl, fun z => ⟨fun h => absurd h (fun hh => hh.nobody), fun h => ((HK.out.1.2.2 z).2 h).1⟩⟩, hbl⟩
      rcases hkeep.out.2.1 with rfl | ⟨k, rfl, hk1, hk2⟩
      · have HK := Lib.hid (And.intro hkeep.out hxy); clear hkeep hxy
        have d1 : ((m : Int) == -1) = false := by simp
        go_wp2_with fail
        go_ret
        exact ⟨⟨-1, rfl, .inl rfl, fun z => ⟨fun h => absurd h (fun hh => hh.nobody), fun h => ((HK.out.1.2.2 z).2 h).2⟩⟩, hbl⟩
      have d1 : ((m : Int) == -1) = false := by simp
      have d2 : ((k : Int) == -1) = false := by simp
      have hmN : m < N := by have := HX.out.2.2.2.2.2.1.lt m hm1; have := HX.out.2.2.2.2.2.2.1; omega
      have hkN : k < N := by have := HX.out.2.2.2.2.2.1.lt k hk1; have := HX.out.2.2.2.2.2.2.1; omega
      have hTw := HX.out.2.2.1.fresh hbl
      obtain ⟨gP, hPA, -, -⟩ := hTw.rowP.some_ (by have := HX.out.2.2.2.2.2.2.2.1; omega)
      obtain ⟨gD, hDA, -, -⟩ := hTw.rowD.some_ (by have := HX.out.2.2.2.2.2.2.2.2.1; omega)
      have c2 := hTw.blk.cell 2 (v := .slice P.A P.l.length P.c) rfl
      have c5 := hTw.blk.cell 5 (v := .slice D.A D.l.length D.c) rfl
      have rP := hTw.rowP
      have rD := hTw.rowD
      rw [hPA] at c2 rP
      rw [hDA] at c5 rD
      rw [HX.out.2.2.2.2.2.2.2.1] at c2
      rw [HX.out.2.2.2.2.2.2.2.2.1] at c5
      have pm := rP.cell_int (i := m) (b := (plO ORD m : Int)) (by rw [HX.out.2.2.2.1]; exact HX.out.1.place hm1)
      have pk := rP.cell_int (i := k) (b := (plO ORD k : Int)) (by rw [HX.out.2.2.2.1]; exact HX.out.1.place hk1)
      obtain ⟨u, hu⟩ := HX.out.2.1.get (m := m) (by have := HX.out.2.2.2.2.2.2.1; omega)
      obtain ⟨v, hvv⟩ := HX.out.2.1.get (m := k) (by have := HX.out.2.2.2.2.2.2.1; omega)
      have dm := rD.cell_int (i := m) (b := u) (by rw [HX.out.2.2.2.2.1]; exact hu)
      have dk := rD.cell_int (i := k) (b := v) (by rw [HX.out.2.2.2.2.1]; exact hvv)
      have m0 : (0 : Int) ≤ (m : Int) := by omega
      have m1 : (m : Int) < (N : Int) := by omega
      have k0 : (0 : Int) ≤ (k : Int) := by omega
      have k1 : (k : Int) < (N : Int) := by omega
      have hrm : rkM (plO ORD) (m : Int) = plO ORD m + 1 := by unfold rkM; rw [if_neg (by omega), Int.toNat_natCast]
      have hrk : rkM (plO ORD) (k : Int) = plO ORD k + 1 := by unfold rkM; rw [if_neg (by omega), Int.toNat_natCast]
      have rkl : ∀ (n : Nat) (u : Int), Ok (Vn has roots) d u → (∀ c : Nat, u = (c : Int) → plO ORD c < plO ORD n) → rkM (plO ORD) u < plO ORD n + 1 := fun n u hu hlt => by
        rcases hu with e | ⟨c, e, -⟩
        · subst e; unfold rkM; rw [if_pos rfl]; omega
        · have := hlt c e
          subst e; unfold rkM; rw [if_neg (by omega), Int.toNat_natCast]; omega
      have hnem : plO ORD m ≠ plO ORD k := fun e => hxy (by rw [HX.out.2.2.2.2.2.1.inj m k hm1 hk1 e])
      by_cases hgt : plO ORD k < plO ORD m
      · obtain ⟨o1, o2⟩ := HX.out.2.1.ok_up hu hm1 hm2
        have hrl := rkl m u o1 o2
        have hstep : ∀ z, (Ch d (m : Int) z ∧ Ch d (k : Int) z) ↔ (Ch d u z ∧ Ch d (k : Int) z) := fun z => HX.out.2.1.meet_step hkeep.out.2.1 hgt hu z
        have dg : decide ((plO ORD k : Int) < (plO ORD m : Int)) = true := by simpa using hgt
        have dg2 : (plO ORD k : Int) < (plO ORD m : Int) := by omega
        have HK := Lib.hid (And.intro hkeep.out (And.intro o1 (And.intro hstep (And.intro hrl (And.intro hrm hrk))))); clear hkeep o1 o2 hstep hrl rkl hrm hrk hu hvv rP rD hTw hxy
        go_upto_region 4 with fail
        go_quiet (fail)
        go_wp2_with fail
        go_roundg (rkM (plO ORD) u + rkM (plO ORD) (k : Int))
        case measure => have h1 := HK.out.2.2.2.1; have h2 := HK.out.2.2.2.2.1; omega
        case rel => exact ⟨u, k, rfl, rfl, rfl, ⟨HK.out.2.1, HK.out.1.2.1, fun z => (HK.out.2.2.1 z).symm.trans (HK.out.1.2.2 z)⟩, below_drewN hbl _⟩
      · have hlt : plO ORD m < plO ORD k := by omega
        obtain ⟨o1, o2⟩ := HX.out.2.1.ok_up hvv hk1 hk2
        have hrl := rkl k v o1 o2
        have hstep : ∀ z, (Ch d (m : Int) z ∧ Ch d (k : Int) z) ↔ (Ch d (m : Int) z ∧ Ch d v z) := fun z => by
          have := HX.out.2.1.meet_step hkeep.out.1 hlt hvv z
          exact and_comm.trans (this.trans and_comm)
        have dg2 : ¬ (plO ORD k : Int) < (plO ORD m : Int) := by omega
        have HK := Lib.hid (And.intro hkeep.out (And.intro o1 (And.intro hstep (And.intro hrl (And.intro hrm hrk))))); clear hkeep o1 o2 hstep hrl rkl hrm hrk hu hvv rP rD hTw hxy
        go_upto_region 4 with fail
        go_quiet (fail)
        go_wp2_with fail
        go_roundg (rkM (plO ORD) (m : Int) + rkM (plO ORD) v)
        case measure => have h1 := HK.out.2.2.2.1; have h2 := HK.out.2.2.2.2.2; omega
        case rel => exact ⟨m, v, rfl, rfl, rfl, ⟨HK.out.1.1, HK.out.2.1, fun z => (HK.out.2.2.1 z).symm.trans (HK.out.1.2.2 z)⟩, below_drewN hbl _⟩

end Go.Proofs.Ytpkccpegdpodoaa

/- owns.tree.round. -/
namespace Go.Proofs.Ytpkccpegdpodoaa
open Go.RowKit

attribute [local go_sem ↓] Go.wp_at_zero Go.wp_at_succ

theorem Tr.fcell {w : World} {base T : Nat} {hv rv : Value} {P O D : SlR} {gF : Nat} {fc : Nat} {F : List SlR} (h : Tr w base T hv rv P O D (some ⟨gF, 0, none⟩) fc F) {c : Nat} {y : SlR} (hy : F[c]? = some y) : w.cell? ⟨gF, c, none⟩ = some (.slice y.A y.l.length y.c) := by
  have h0 := h.row.cells_ (g := gF) (o := 0) rfl (c * 1 + 0) (.slice y.A y.l.length y.c) ((flat_get F c 0 y hy (by decide)).trans rfl)
  simpa using h0
/-- the tree at work: rows apart, its doms read as d -/
def TrD (w : World) (base T : Nat) (hv rv : Value) (PL ORD : List Int) (FR : List (List Int)) (d : List Int) : Prop := TrS w base T hv rv d ⟨PL, ORD, FR⟩
structure Rd (has : List (List Int)) (roots PL ORD : List Int) (FR : List (List Int)) : Prop where
  dt : DT has roots PL ORD FR
  r : Right has
  s : RightL has.length roots
  n : has.length ≤ 100
theorem Rd.gf {has : List (List Int)} {roots PL ORD : List Int} {FR : List (List Int)} (h : Rd has roots PL ORD FR) : Gf has.length (Vn has roots) (Frn has roots) (plO ORD) := h.dt.gf h.r h.s
theorem Rd.ple {has : List (List Int)} {roots PL ORD : List Int} {FR : List (List Int)} (h : Rd has roots PL ORD FR) : ∀ m, Vn has roots m → plO ORD m ≤ 900 := fun m hm => by have := h.dt.pl_lt hm; have := h.dt.ol; omega

set_option maxHeartbeats 6400000 in
set_option maxRecDepth 100000 in
theorem round_any (has : List (List Int)) (roots PL ORD : List Int) (FR : List (List Int)) (d : List Int) (hR : Rd has roots PL ORD FR) (hd : DvG has roots ORD d 0)
    (base T : Nat) (hv rv : Value) (w : World) (hbw : base ≤ w.heap.size) (hT : TrD w base T hv rv PL ORD FR d) :
    Calls Try.prog 174 #[.pointer (some ⟨T, 0, none⟩)] w fun e w' => (∃ (ch : Bool) (d' : List Int), e = .returned (.bool ch) ∧ TrD w' base T hv rv PL ORD FR d' ∧ DvG has roots ORD d' 0 ∧ (∀ m, Vn has roots m → d'[m]? ≠ some (-2)) ∧ (ch = false → ∀ m, Vn has roots m → FixAt has roots d' m) ∧ (ch = true → mu ORD d' < mu ORD d)) ∧ Below base w w' := by
  obtain ⟨N, hNe⟩ : ∃ N, has.length = N := ⟨_, rfl⟩
  obtain ⟨q, hq⟩ : ∃ q, ORD.length = q := ⟨_, rfl⟩
  have hN := hR.n
  have hol := hR.dt.ol
  rw [hNe] at hN
  rw [hq] at hol
  have hTlt : T < w.heap.size := by obtain ⟨P, O, D, FA, fc, F, h1, -⟩ := hT; exact h1.lt
  have HX := Lib.hid (And.intro hR (And.intro hd (And.intro hT (And.intro hNe hq)))); clear hR hd hT hNe hq
  have c3 : ∃ OA oc, w.cell? ⟨T, 3, none⟩ = some (.slice OA q oc) := by
    obtain ⟨P, O, D, FA, fc, F, h1, e1, e2, e3, e4⟩ := HX.out.2.2.1
    refine ⟨O.A, O.c, ?_⟩
    have := h1.blk.cell 3 (v := .slice O.A O.l.length O.c) rfl
    simp only at e2
    rw [e2, HX.out.2.2.2.2] at this
    exact this
  obtain ⟨⟨PA, pc, p0⟩, ⟨OA, oc, o0⟩, ⟨DA, dc, d0⟩, FA0, fc0, F0, h10, e10, e20, e30, e40⟩ := HX.out.2.2.1
  simp only at e10 e20 e30 e40
  subst p0
  subst o0
  subst d0
  have c3 := h10.blk.cell 3 (v := .slice OA ORD.length oc) rfl
  rw [HX.out.2.2.2.2] at c3
  have HO := Lib.hid (And.intro h10 e30); clear h10 e30
  go_enter Try.func174, Try.ntmps174
  go_wp2_with fail
  clear c3
  go_loopg [3, 14] q (fun gk cv iv wr => ∃ (i : Nat) (ch : Bool) (dl : List Int), i ≤ q ∧ gk = q - i ∧ iv = .int .i64 i ∧ cv = .bool ch ∧ Hid (Tr wr base T hv rv ⟨PA, pc, PL⟩ ⟨OA, oc, ORD⟩ ⟨DA, dc, dl⟩ FA0 fc0 F0 ∧ DvG has roots ORD dl i ∧ (ch = false → dl = d ∧ ∀ m, Vn has roots m → plO ORD m < i → FixAt has roots dl m) ∧ (ch = true → mu ORD dl < mu ORD d)) ∧ Below base w wr)
  case atStart => exact ⟨0, false, d, Nat.zero_le _, rfl, rfl, rfl, ⟨HO.out.1, HX.out.2.1, fun _ => ⟨rfl, fun m _ h => absurd h (by omega)⟩, fun h => by cases h⟩, Below.refl _ _⟩
  case round =>
    obtain ⟨i, ch, dl, hil, rfl, rfl, rfl, hkeep, hbl⟩ := hrel
    obtain ⟨wo, rfl⟩ : ∃ wo : World, wo = wr := ⟨_, rfl⟩
    have hsz := hbl.size
    by_cases hlt : i < q
    · have hTw := hkeep.out.1
      obtain ⟨x, hx⟩ : ∃ x, ORD[i]? = some x := ⟨_, List.getElem?_eq_getElem (by have := HX.out.2.2.2.2; omega)⟩
      obtain ⟨n, rfl⟩ := HX.out.1.dt.nat x (List.mem_of_getElem? hx)
      have hVn := (HX.out.1.dt.mem n).1 (List.mem_of_getElem? hx)
      have hpl := plO_of HX.out.1.dt.nd hx
      have hnN : n < N := by have := HX.out.1.gf.lt n hVn; have := HX.out.2.2.2.1; omega
      obtain ⟨gO, rfl, -, -⟩ := hTw.rowO.some_ (by simp only; have := HX.out.2.2.2.2; omega)
      have x0 := hTw.rowO.cell_int hx
      have hFN : F0.length = N := by have := congrArg List.length HO.out.2; rw [List.length_map, HX.out.1.dt.lf, HX.out.2.2.2.1] at this; exact this
      obtain ⟨gF, rfl, -, -⟩ := hTw.row.some_ (by omega)
      obtain ⟨⟨YA, yc1, yl⟩, hy⟩ : ∃ y, F0[n]? = some y := ⟨_, List.getElem?_eq_getElem (by omega)⟩
      have hfl : FR[n]? = some yl := by rw [← HO.out.2, List.getElem?_map, hy]; rfl
      have c4 := hTw.blk.cell 4 (v := .slice (some ⟨gF, 0, none⟩) F0.length fc0) rfl
      have yc := hTw.fcell hy
      simp only at yc
      rw [hFN] at c4
      obtain ⟨m, hm⟩ : ∃ m, yl.length = m := ⟨_, rfl⟩
      have hmm : m ≤ 9223372036854775807 := by have := (hTw.rowF hy).le_cap; simp only at this; unfold maxLen at this; omega
      rw [hm] at yc
      have i0 : (0 : Int) ≤ (i : Int) := by omega
      have i1 : (i : Int) < (q : Int) := by omega
      have n0 : (0 : Int) ≤ (n : Int) := by omega
      have n1 : (n : Int) < (N : Int) := by omega
      have HI := Lib.hid (And.intro hkeep.out (And.intro hx (And.intro hVn (And.intro hpl (And.intro hfl (And.intro hy hm)))))); clear hkeep hx hVn hpl hfl hy hTw
      go_wp2_with fail
      clear x0 yc c4
      go_loopg [6, 26] m (fun gk av jv wj => ∃ (j : Nat) (a : Int), j ≤ m ∧ gk = m - j ∧ jv = .int .i64 j ∧ av = .int .i64 a ∧ Hid (MeetK has roots dl yl j a) ∧ Below wo.heap.size wo wj)
      case atStart => exact ⟨0, -2, Nat.zero_le _, rfl, rfl, rfl, MeetK.zero, Below.refl _ _⟩
      case round =>
        obtain ⟨j, a, hjl, rfl, rfl, rfl, hmk, hbj⟩ := hrel
        have hsj := hbj.size
        have hTj := HI.out.1.1.fresh hbj
        by_cases hltj : j < m
        · obtain ⟨x, hxj⟩ : ∃ x, yl[j]? = some x := ⟨_, List.getElem?_eq_getElem (by have := HI.out.2.2.2.2.2.2; omega)⟩
          have hfx := (HX.out.1.dt.frs n yl x HI.out.2.2.1 HI.out.2.2.2.2.1).1 (List.mem_of_getElem? hxj)
          have ry := hTj.rowF HI.out.2.2.2.2.2.1
          obtain ⟨gy, rfl, -, -⟩ := ry.some_ (by simp only; have := HI.out.2.2.2.2.2.2; omega)
          have y0 := ry.cell_int hxj
          have j0 : (0 : Int) ≤ (j : Int) := by omega
          have j1 : (j : Int) < (m : Int) := by omega
          have meetc : ∀ (x : Int), Ok (Vn has roots) dl a → Ok (Vn has roots) dl x → Calls Try.prog 194 #[.pointer (some ⟨T, 0, none⟩), .int .i64 a, .int .i64 x] wr fun e w' => (∃ c, e = .returned (.int .i64 c) ∧ Ok (Vn has roots) dl c ∧ ∀ z, Ch dl c z ↔ Ch dl a z ∧ Ch dl x z) ∧ Below wr.heap.size wr w' := fun x h1 h2 =>
            meet_any has roots PL ORD FR dl i HX.out.1.dt HI.out.1.2.1 HX.out.1.r HX.out.1.s HX.out.1.n base T hv rv a x h1 h2 wr (by omega) ⟨_, _, _, _, _, _, hTj, rfl, rfl, HO.out.2, rfl⟩
          rcases frn_src hfx with rfl | ⟨k, rfl, hvk⟩
          · -- nobody has it
            by_cases ha : a = -2
            · subst ha
              have HM := Lib.hid (MeetK.next hmk.out hxj (c := -1) (.inr (.inl rfl)) (fun z => ⟨fun h => absurd h (fun hh => hh.nobody), fun h => h.2⟩)); clear hmk hxj hfx meetc
              go_wp2_with fail
              go_roundg (m - (j + 1))
              case measure => omega
              case rel => exact ⟨j + 1, -1, by omega, rfl, by go_num, rfl, HM.out, hbj⟩
            · have hoka : Ok (Vn has roots) dl a := by rcases hmk.out.1 with e | e
                                                       · exact absurd e ha
                                                       · exact e
              have d0 : (a == -2) = false := by simpa using ha
              have HM := Lib.hid (And.intro hmk.out (And.intro hxj (meetc (-1) hoka (.inl rfl)))); clear hmk hxj hfx meetc hoka ha
              go_wp2_with fail
              refine HM.out.2.2.mono ?_
              rintro e w2 ⟨⟨c, rfl, hc1, hc2⟩, hb2⟩
              have HC := Lib.hid (MeetK.next HM.out.1 HM.out.2.1 (.inr hc1) hc2); clear hc1 hc2
              go_wp2_with fail
              go_roundg (m - (j + 1))
              case measure => omega
              case rel => exact ⟨j + 1, c, by omega, rfl, by go_num, rfl, HC.out, hbj.trans (hb2.mono hsj)⟩
          · have hkN : k < N := by have := HX.out.1.gf.lt k hvk; have := HX.out.2.2.2.1; omega
            obtain ⟨u, hu⟩ := HI.out.1.2.1.get (m := k) (HX.out.1.gf.lt k hvk)
            have hDN : dl.length = N := by rw [HI.out.1.2.1.len]; exact HX.out.2.2.2.1
            obtain ⟨gD, rfl, -, -⟩ := hTj.rowD.some_ (by simp only; omega)
            have u0 := hTj.rowD.cell_int hu
            have c5 := hTj.blk.cell 5 (v := .slice (some ⟨gD, 0, none⟩) dl.length dc) rfl
            rw [hDN] at c5
            have k0 : (0 : Int) ≤ (k : Int) := by omega
            have k1 : (k : Int) < (N : Int) := by omega
            have dk : ((k : Int) != -1) = true := by simp
            by_cases hun : u = -2
            · subst hun
              have HM := Lib.hid (MeetK.next hmk.out hxj (c := a) hmk.out.1 (fun z => ⟨fun h => ⟨h, .up hu .top⟩, fun h => h.1⟩)); clear hmk hxj hfx meetc hu
              go_wp2_with fail
              go_roundg (m - (j + 1))
              case measure => omega
              case rel => exact ⟨j + 1, a, by omega, rfl, by go_num, rfl, HM.out, hbj⟩
            have hokk : Ok (Vn has roots) dl (k : Int) := .inr ⟨k, rfl, hvk, fun e => hun (by rw [hu] at e; injection e)⟩
            have du : (u == -2) = false := by simpa using hun
            by_cases ha : a = -2
            · subst ha
              have HM := Lib.hid (MeetK.next hmk.out hxj (c := (k : Int)) (.inr hokk) (fun z => ⟨fun h => ⟨.top, h⟩, fun h => h.2⟩)); clear hmk hxj hfx meetc hokk hun hu
              go_wp2_with fail
              go_roundg (m - (j + 1))
              case measure => omega
              case rel => exact ⟨j + 1, (k : Int), by omega, rfl, by go_num, rfl, HM.out, hbj⟩
            · have hoka : Ok (Vn has roots) dl a := by rcases hmk.out.1 with e | e
                                                       · exact absurd e ha
                                                       · exact e
              have d0 : (a == -2) = false := by simpa using ha
              have HM := Lib.hid (And.intro hmk.out (And.intro hxj (meetc (k : Int) hoka hokk))); clear hmk hxj hfx meetc hoka ha hokk hun hu
              go_wp2_with fail
              refine HM.out.2.2.mono ?_
              rintro e w2 ⟨⟨c, rfl, hc1, hc2⟩, hb2⟩
              have HC := Lib.hid (MeetK.next HM.out.1 HM.out.2.1 (.inr hc1) hc2); clear hc1 hc2
              go_wp2_with fail
              go_roundg (m - (j + 1))
              case measure => omega
              case rel => exact ⟨j + 1, c, by omega, rfl, by go_num, rfl, HC.out, hbj.trans (hb2.mono hsj)⟩
        · obtain rfl : m = j := by omega
          have hmk2 := hmk.out
          rw [← HI.out.2.2.2.2.2.2] at hmk2
          obtain ⟨hoka, hpla, hmz⟩ := hmk2.whole HX.out.1.dt HI.out.1.2.1 HI.out.2.2.1 HI.out.2.2.2.1 HI.out.2.2.2.2.1
          obtain ⟨u, hu⟩ := HI.out.1.2.1.get (m := n) (HX.out.1.gf.lt n HI.out.2.2.1)
          have hDN : dl.length = N := by rw [HI.out.1.2.1.len]; exact HX.out.2.2.2.1
          obtain ⟨gD, rfl, -, -⟩ := hTj.rowD.some_ (by simp only; omega)
          have u0 := hTj.rowD.cell_int hu
          have z0 := hTj.rowD.frozen (g := gD) rfl n
          have c5 := hTj.blk.cell 5 (v := .slice (some ⟨gD, 0, none⟩) dl.length dc) rfl
          rw [hDN] at c5
          have ha2 : (a != -2) = true := by
            have : a ≠ -2 := by rcases hoka with e | ⟨c, e, -⟩ <;> omega
            simpa using this
          have hpi := HI.out.2.2.2.1
          have hnd := HI.out.2.2.1
          have hmule : mu ORD dl ≤ mu ORD d := by
            cases ch with
            | false => rw [(HI.out.1.2.2.1 rfl).1]; exact Nat.le_refl _
            | true => exact Nat.le_of_lt (HI.out.1.2.2.2 rfl)
          have hbw2 : Below base w wr := hbl.trans (hbj.mono (by omega))
          by_cases hau : a = u
          · subst hau
            have hd2 := HI.out.1.2.1.stay HX.out.1.gf sdn_fr hnd hpi hu hoka hpla hmz
            have hfx : FixAt has roots dl n := fun b z hb hz x hx => by rw [hu] at hb; injection hb with hb; subst hb; exact (hmz z).1 hz x hx
            have hF := Lib.hid (And.intro hd2 (And.intro hfx hTj)); clear hd2 hfx hTj hoka hpla hmz hmk hmk2 hu
            go_wp2_with fail
            go_roundg (q - (i + 1))
            case measure => omega
            case rel =>
              refine ⟨i + 1, ch, dl, by omega, rfl, by go_num, rfl, ⟨hF.out.2.2, hF.out.1, fun e => ⟨(HI.out.1.2.2.1 e).1, fun p hp hlp => ?_⟩, HI.out.1.2.2.2⟩, hbw2⟩
              by_cases e2 : plO ORD p < i
              · exact (HI.out.1.2.2.1 e).2 p hp e2
              · obtain rfl : p = n := HX.out.1.gf.inj p n hp hnd (by omega)
                exact hF.out.2.1
          · have hd2 := HI.out.1.2.1.step HX.out.1.gf sdn_fr hnd hpi hu hoka hpla hmz
            have hlift := HI.out.1.2.1.lift HX.out.1.gf HX.out.1.ple hnd hu hoka hmz hau
            have hmu := mu_set (ORD := ORD) hu hlift
            have hai : I64 a := by
              rcases hoka with e | ⟨c, e, hc, -⟩
              · subst e; exact ⟨by omega, by omega⟩
              · have := HX.out.1.gf.lt c hc; have := HX.out.2.2.2.1; subst e; exact ⟨by omega, by omega⟩
            have hTs := hTj.setD (g := gD) (n := n) (v := a) rfl (by simp only; omega) hai
            have dau : (a != u) = true := by simpa using hau
            have hgb : base ≤ gD := (hTj.rowD.lt gD rfl).1
            have hF := Lib.hid (And.intro hd2 (And.intro hmu hTs)); clear hd2 hmu hTs hTj hlift hoka hpla hmz hmk hmk2 hu hau hai
            go_wp2_with fail
            go_roundg (q - (i + 1))
            case measure => omega
            case rel =>
              exact ⟨i + 1, true, dl.set n a, by omega, rfl, by go_num, rfl, ⟨hF.out.2.2, hF.out.1, (fun e => by cases e), fun _ => Nat.lt_of_lt_of_le hF.out.2.1 hmule⟩, hbw2.setCell hgb _⟩
    · obtain rfl : q = i := by omega
      have hk := hkeep.out
      have HK := Lib.hid hk; clear hkeep hk
      go_wp2_with fail
      go_ret
      have hall : ∀ m, Vn has roots m → plO ORD m < q := fun m hm => by have := HX.out.1.dt.pl_lt hm; have := HX.out.2.2.2.2; omega
      refine ⟨⟨ch, dl, rfl, ⟨_, _, _, _, _, _, HK.out.1, rfl, rfl, HO.out.2, rfl⟩, HK.out.2.1.again hall, fun m hm => HK.out.2.1.done m hm (hall m hm), fun e m hm => (HK.out.2.2.1 e).2 m hm (hall m hm), HK.out.2.2.2⟩, hbl⟩

end Go.Proofs.Ytpkccpegdpodoaa

/- math/bits.Mul at one and a small number; slices.Repeat of one int. -/
namespace Go.Proofs.Ytpkccpegdpodoaa
open Go.RowKit

attribute [local go_sem ↓] Go.wp_at_zero Go.wp_at_succ

theorem mul64_small (y : Nat) (hy : y ≤ 1000) (w : World) : Calls Try.prog 215 #[.int .u64 1, .int .u64 y] w fun e w' => e = .returned (.tuple #[.int .u64 0, .int .u64 y]) ∧ w = w' := by
  have hm : bits .and .u64 (y : Int) 4294967295 = (y : Int) := by
    have h := bits_and_u64_nat y 4294967295 (by omega) (by omega)
    have e : y &&& 4294967295 = y % 4294967296 := Nat.and_two_pow_sub_one_eq_mod y 32
    rw [e, Nat.mod_eq_of_lt (by omega)] at h
    exact h
  have hm1 : bits .and .u64 1 4294967295 = 1 := by decide +kernel
  have hd : (y : Int) / 4294967296 = 0 := by omega
  have hm0 : bits .and .u64 0 4294967295 = 0 := by decide +kernel
  have hw : IntKind.u64.wrap (y : Int) = (y : Int) := by rw [IntKind.wrap_u64]; omega
  go_enter Try.func215, Try.ntmps215
  go_wp2
  go_ret2
  exact ⟨rfl, rfl⟩
theorem mul_small (y : Nat) (hy : y ≤ 1000) (w : World) : Calls Try.prog 193 #[.int .u64 1, .int .u64 y] w fun e w' => e = .returned (.tuple #[.int .u64 0, .int .u64 y]) ∧ w = w' := by
  have H := Lib.hid hy
  go_enter Try.func193, Try.ntmps193
  go_wp2_with (go_at_call 215; refine (mul64_small y H.out w).mono ?_; rintro e w' ⟨rfl, rfl⟩)
  go_ret2
  exact ⟨rfl, rfl⟩

def repC (v : Int) (n k : Nat) : List Value := List.replicate k (.int .i64 v) ++ List.replicate (n - k) (.int .i64 0)
theorem repC_length (v : Int) (n k : Nat) (h : k ≤ n) : (repC v n k).length = n := by simp [repC]; omega
theorem repC_splice (v : Int) (n k m : Nat) (h : k + m ≤ n) : splice (repC v n k) k (List.replicate m (.int .i64 v)) = repC v n (k + m) := by
  unfold splice repC
  rw [List.length_replicate, List.take_left' (by simp), List.drop_append, List.drop_of_length_le (by simp), List.length_replicate, List.drop_replicate, List.nil_append, ← List.append_assoc, List.replicate_append_replicate]
  congr 2
  omega
theorem madeInt (n : Nat) : madeCells #[.int .i64 0] n = (repC 0 n 0).toArray := by
  apply Array.toList_inj.1
  apply List.ext_getElem?
  intro i
  simp only [madeCells, repC, Array.toList_map, Array.toList_range, List.getElem?_map, List.replicate_zero, List.nil_append, Nat.sub_zero, List.getElem?_replicate]
  by_cases h : i < n
  · simp [h, Nat.mod_one]
  · simp [h]
theorem repC_get (v : Int) (n k j : Nat) (h : j < k) : (repC v n k)[j]? = some (.int .i64 v) := by
  unfold repC
  rw [List.getElem?_append_left (by simpa using h), List.getElem?_replicate, if_pos h]
theorem repC_zero (v u : Int) (n : Nat) : repC v n 0 = repC u n 0 := by simp [repC]
theorem repC_flat (v : Int) (n : Nat) : repC v n n = flat (List.replicate n v) := by
  unfold repC
  rw [Nat.sub_self, List.replicate_zero, List.append_nil]
  induction n with
  | zero => rfl
  | succ n ih => rw [List.replicate_succ, ih, List.replicate_succ, flat_cons]; rfl
theorem at_one {w : World} {B : Nat} {X : Option Addr} {v : Int} (h : At w B X [v]) : ∃ b o, X = some ⟨b, o, none⟩ ∧ b < B ∧ w.cell? ⟨b, o, none⟩ = some (.int .i64 v) ∧ I64 v := by
  obtain ⟨b, o, x, rfl, hb, hx, hok, h0⟩ := h.int_ (k := 0) (by simp)
  injection hx with hx
  subst hx
  exact ⟨b, o, rfl, hb, h0, hok⟩

set_option maxHeartbeats 1600000 in
set_option maxRecDepth 100000 in
theorem repeatInt_any (A : Option Addr) (c B n : Nat) (v : Int) (w : World) (h : At w B A [v]) (hB : B ≤ w.heap.size) (hc : 1 ≤ c) (hn : n ≤ 100) :
    Calls Try.prog 171 #[.slice A 1 c, .int .i64 n] w fun e w' => e = .returned (.slice (some ⟨w.heap.size, 0, none⟩) n n) ∧ Own w' w.heap.size 3 (some ⟨w.heap.size, 0, none⟩) n (List.replicate n v) ∧ Below w.heap.size w w' := by
  have hmk := Go.run_make_row' (P := Try.prog) 47 3 (.int .i64 0) 8 Try.underlying47 infoInt rfl .i64 .i64 n (by omega) (by omega)
  have hsz : (Try.prog.info? 3).map (·.size) = some 1 := by kernel_rfl
  obtain ⟨b, o, rfl, hb, h0, hok⟩ := at_one h
  have HSZ := Lib.hid hsz; clear hsz h
  have HV := Lib.hid hok; clear hok
  have hge : (0 : Int) ≤ (n : Int) := by omega
  have hwn : IntKind.u64.wrap (n : Int) = (n : Int) := by rw [IntKind.wrap_u64]; omega
  have hwi : IntKind.i64.wrap (n : Int) = (n : Int) := IntWalk.i64_in _ (by omega)
  go_enter Try.func171, Try.ntmps171
  obtain ⟨W, hW⟩ : ∃ W, W = w.alloc (.cells (madeCells #[.int .i64 0] n) 3) := ⟨_, rfl⟩
  have hg0 : W.heap[w.heap.size]? = some (.cells (repC v n 0).toArray 3 (0, 0)) := by
    rw [hW, madeInt, repC_zero 0 v]; exact heap_alloc_new w _
  have hb0 : Below w.heap.size w W := by rw [hW]; exact (Below.refl _ _).alloc (Nat.le_refl _) _
  have hc0 : W.cell? ⟨b, o, none⟩ = some (.int .i64 v) := by
    rw [hW, World.cell?_alloc_lt w _ _ (by simp; omega)]; exact h0
  obtain ⟨W2, hrun, hg2, hb2⟩ : ∃ W2, (Builtin.copy_ #[47, 47] 3 #[.slice (some ⟨w.heap.size, 0, none⟩) n n, .slice (some ⟨b, o, none⟩) 1 c]).run Try.prog W = .ok (.int .i64 ((min 1 n : Nat) : Int)) W2 ∧ W2.heap[w.heap.size]? = some (.cells (repC v n (min 1 n)).toArray 3 (0, 0)) ∧ Below w.heap.size w W2 := by
    have hr := run_copy_row (P := Try.prog) W 47 47 3 3 w.heap.size 0 n n ⟨b, o, none⟩ 1 c (repC v n 0).toArray 3 (List.replicate (min 1 n) (.int .i64 v)) Try.underlying47 HSZ.out hg0 (by simp [Nat.min_def]) (fun j u hj => by
      rw [List.getElem?_replicate] at hj
      split at hj
      · rename_i hlt
        obtain rfl : j = 0 := by omega
        injection hj with hj
        subst hj
        exact hc0
      · cases hj) (by simp [repC_length]; omega) (fun u hu => by rw [(List.mem_replicate.1 hu).2]; rfl)
    refine ⟨_, by rw [hr, List.length_replicate]; rfl, ?_, bel_setRow hb0 (Nat.le_refl _) _⟩
    have := repC_splice v n 0 (min 1 n) (by omega)
    unfold splice at this
    rw [setRow_heap W w.heap.size _ _ _ _ hg0]
    simp only [Nat.zero_add] at this
    rw [← this]
    simp
  rw [hW] at hrun
  have H2 := Lib.hid (And.intro hg2 hb2); clear hg2 hb2 hg0 hb0 hc0 hW
  obtain ⟨m0, hm0⟩ : ∃ m, min 1 n = m := ⟨_, rfl⟩
  rw [hm0] at hrun H2
  have hm1 : m0 ≤ n := by omega
  have hm2 : 0 < n → 1 ≤ m0 := by omega
  have HM2 := Lib.hid hm2
  clear hm0 hm2
  go_wp2_with (go_at_call 193; refine (mul_small n (by omega) w).mono ?_; rintro e w' ⟨rfl, rfl⟩)
  go_loopg [8] (n - m0) (fun gk mv wr => ∃ m : Nat, m ≤ n ∧ gk = n - m ∧ mv = .int .i64 m ∧ (0 < n → 1 ≤ m) ∧ Hid (wr.heap[w.heap.size]? = some (.cells (repC v n m).toArray 3 (0, 0))) ∧ Below w.heap.size w wr)
  case atStart => exact ⟨m0, hm1, by omega, rfl, HM2.out, H2.out.1, H2.out.2⟩
  case round =>
    obtain ⟨m, hm, rfl, rfl, hp, hrow, hbl⟩ := hrel
    by_cases hlt : m < n
    · have hm1' : 1 ≤ m := hp (by omega)
      obtain ⟨q, hq⟩ : ∃ q, Nat.min m (n - m) = q := ⟨_, rfl⟩
      have hq1 : 1 ≤ q ∧ q ≤ m ∧ m + q ≤ n := by
        subst hq
        have h1 : Nat.min m (n - m) = min m (n - m) := rfl
        rw [h1]; omega
      have hnm : ¬ n = m := by omega
      have c0 : (0 : Int) ≤ (m : Int) := by omega
      have c1 : (m : Int) ≤ (n : Int) := by omega
      have c2 : m ≤ n := by omega
      have hwr : IntKind.i64.wrap ((m : Int) + (q : Int)) = ((m + q : Nat) : Int) := by rw [IntWalk.i64_in _ (by omega)]; omega
      obtain ⟨w3, hrun, hg3, hb3⟩ : ∃ w3, (Builtin.copy_ #[47, 47] 3 #[.slice (some ⟨w.heap.size, m, none⟩) (n - m) (n - m), .slice (some ⟨w.heap.size, 0, none⟩) m n]).run Try.prog wr.drew = .ok (.int .i64 (q : Int)) w3 ∧ w3.heap[w.heap.size]? = some (.cells (repC v n (m + q)).toArray 3 (0, 0)) ∧ Below w.heap.size w w3 := by
        have hr := run_copy_row (P := Try.prog) wr.drew 47 47 3 3 w.heap.size m (n - m) (n - m) ⟨w.heap.size, 0, none⟩ m n (repC v n m).toArray 3 (List.replicate q (.int .i64 v)) Try.underlying47 HSZ.out hrow.out (by simp [← hq]) (fun j u hj => by
          rw [List.getElem?_replicate] at hj
          split at hj
          · rename_i hlt2
            injection hj with hj
            subst hj
            rw [add_mk, Nat.zero_add]
            exact (Blk.cell (w := wr.drew) (t := 3) hrow.out j (by rw [List.getElem?_toArray]; exact repC_get v n m j (by omega)))
          · cases hj) (by simp [repC_length v n m c2]; omega) (fun u hu => by rw [(List.mem_replicate.1 hu).2]; rfl)
        refine ⟨_, by rw [hr, List.length_replicate]; rfl, ?_, bel_setRow (w := wr.drew) (below_drewN hbl 1) (Nat.le_refl _) _⟩
        have := repC_splice v n m q (by omega)
        unfold splice at this
        rw [setRow_heap wr.drew w.heap.size _ _ _ _ hrow.out]
        rw [← this]
        simp
      have H3 := Lib.hid (And.intro hg3 hb3); clear hg3 hb3 hq hp
      go_wp2_with fail
      go_region
      go_wp2_with fail
      go_roundg (n - (m + q))
      case measure => omega
      case rel => exact ⟨m + q, by omega, rfl, by first | rfl | go_num, fun _ => by omega, H3.out.1, H3.out.2⟩
    · obtain rfl : m = n := by omega
      have HR := Lib.hid (And.intro hrow.out hbl)
      clear hrow hp
      go_wp2_with fail
      go_ret
      refine ⟨rfl, ?_, HR.out.2⟩
      refine ⟨flat_length _, .inr ⟨w.heap.size, m, (repC v m m).toArray, by rw [List.length_replicate], Nat.le_refl _, HR.out.1, by simp, by simp only [maxLen]; omega, by simp [repC_length v m m (Nat.le_refl _), Flat.sz], ?_⟩⟩
      rw [repC_flat, List.length_replicate, List.take_of_length_le (by simp [flat_length, Flat.sz])]

end Go.Proofs.Ytpkccpegdpodoaa

/- weak.From: what is reached; numbers of those that are so. -/
namespace Go.Proofs.Ytpkccpegdpodoaa
open Go.RowKit

theorem madeBool (n : Nat) : (madeCells #[.bool false] n).toList = flat (List.replicate n false) := by
  apply List.ext_getElem?
  intro i
  have e : flat (List.replicate n false) = List.replicate n (Value.bool false) := by
    induction n with
    | zero => rfl
    | succ n ih => rw [List.replicate_succ, flat_cons, ih, List.replicate_succ]; rfl
  rw [e]
  simp only [madeCells, Array.toList_map, Array.toList_range, List.getElem?_map, List.getElem?_replicate]
  by_cases h : i < n
  · simp [h, Nat.mod_one]
  · simp [h]
theorem own_made (w : World) (base : Nat) (e : TypeId) (n : Nat) (hb : base ≤ w.heap.size) (hn : n ≤ maxLen) : Own (w.alloc (.cells (madeCells #[.bool false] n) e)) base e (some ⟨w.heap.size, 0, none⟩) n (List.replicate n false) := by
  refine ⟨flat_length _, .inr ⟨w.heap.size, n, madeCells #[.bool false] n, by rw [List.length_replicate], hb, heap_alloc_new w _, by simp, hn, by simp [size_madeCells, Flat.sz], ?_⟩⟩
  rw [← madeBool, List.take_of_length_le (by simp [size_madeCells, Flat.sz])]
theorem infoBool : (Try.prog.info? 4).map (fun i => (i.zero, i.size, i.bytes)) = some (some (.bool false), 1, 1) := by kernel_rfl

theorem replicate_len (n : Nat) : (List.replicate n false).length = n := by simp
theorem fromL_start {has : List (List Int)} {src : List Int} (pairs : List (Int × Int)) (hs : RightL has.length src) : Inv has src pairs [] (reachL src (List.replicate has.length false, [])).1 (reachL src (List.replicate has.length false, [])).2 ∧ (∀ k : Nat, (k : Int) ∈ src → (reachL src (List.replicate has.length false, [])).1[k]? = some true) ∧ (reachL src (List.replicate has.length false, [])).2.length ≤ 2 * has.length := by
  obtain ⟨h1, h2, h3, h4⟩ := Inv.reachL (st := (List.replicate has.length false, [])) (l := src) (Inv.start has src pairs) (fun x hx => by
    obtain ⟨k, rfl, hk⟩ := hs x hx
    exact ⟨k, rfl, hk, .root hx⟩)
  refine ⟨h1, h3, ?_⟩
  have := unseen_le (List.replicate has.length false)
  rw [replicate_len] at this
  simp only [List.length_nil] at h4
  omega

set_option maxHeartbeats 1600000 in
set_option maxRecDepth 100000 in
theorem wfrom_any (B hc rc lc rn : Nat) (HA RA LA : Option Addr) (has : List (List Int)) (l : List Int) (w : World) (hh : At w B HA has) (hl : At w B LA l) (hB : B ≤ w.heap.size)
    (hright : Right has) (hsrc : RightL has.length l) (hlen : has.length ≤ 100) (hll : l.length ≤ 1000) (hhl : ∀ l ∈ has, l.length ≤ 10) :
    Calls Try.prog 105 #[.agg #[.slice HA has.length hc, .slice RA rn rc], .slice LA l.length lc] w fun e w' => ∃ S c, e = .returned (.slice S has.length c) ∧ Own w' w.heap.size 4 S c (fromL has l []) ∧ Below w.heap.size w w' := by
  have hmk := Go.run_make_row' (P := Try.prog) 60 4 (.bool false) 1 Try.underlying60 infoBool rfl .i64 .i64 has.length (by omega) (by omega)
  have hst := fromL_start [] hsrc
  have HH := Lib.hid (And.intro hh (And.intro hl (And.intro hright (And.intro hsrc (And.intro hhl hst))))); clear hh hl hright hsrc hhl hst
  go_enter Try.func105, Try.ntmps105
  go_wp2_with fail
  refine wp_world (fun W => Blk W w.heap.size 49 #[.slice HA has.length hc, .slice RA rn rc] ∧ Below w.heap.size w W ∧ w.heap.size + 1 ≤ W.heap.size) ⟨Blk.new _ _ _, (Below.refl _ _).alloc (Nat.le_refl _) _, by simp⟩ ?_
  rintro W ⟨hG, hb0, hs0⟩
  have g0 := hG.cell 0 rfl
  have g1 := hG.cell 1 rfl
  have lt0 : w.heap.size < W.heap.size := by omega
  clear hG
  go_region_held3 (fun w' => w'.cell? ⟨w.heap.size, 0, none⟩ = some (.slice HA has.length hc) ∧ w'.cell? ⟨w.heap.size, 1, none⟩ = some (.slice RA rn rc)) (go_keep) (fail)
  go_wp2_with fail
  refine calls_world (fun V => Rch V W.heap.size (W.heap.size + 1) (.slice HA has.length hc) (.slice RA rn rc) (List.replicate has.length false) [] ∧ Below w.heap.size w V) ⟨?_, ?_⟩ ?_
  · have o1 := own_made W W.heap.size 4 has.length (Nat.le_refl _) (by simp only [maxLen]; omega)
    refine ⟨some ⟨W.heap.size, 0, none⟩, none, has.length, 0, ?_, (o1.alloc _).drew, Own.nil_, by omega⟩
    rw [List.length_replicate]
    exact (Blk.at_ (W.alloc _) _ _ (by simp)).drew
  · exact ((hb0.alloc (by omega) _).alloc (by simp; omega) _).drew
  clear g0 g1 hmk
  rintro V ⟨hR, hbV⟩
  have hsV := hR.lt
  refine (reach_old (W.heap.size + 1) W.heap.size B lc LA _ _ (List.replicate has.length false) [] l V hR (HH.out.2.1.below (hbV.mono hB)) (by omega) (by rw [List.length_replicate]; exact HH.out.2.2.2.1) (by simp; omega) (by simp; omega)).mono ?_
  rintro e w1 ⟨rfl, hR1, hb1⟩
  have hbl1 := hbV.trans (hb1.mono (by omega))
  obtain ⟨s1, t1, hst⟩ : ∃ s1 t1, reachL l (List.replicate has.length false, []) = (s1, t1) := ⟨_, _, rfl⟩
  have hH := HH.out.2.2.2.2.2
  rw [hst] at hR1 hH
  have htl : t1.length ≤ 2 * has.length := hH.2.2
  have H1 := Lib.hid (And.intro hR1 hH); clear hR1 hH hR hst
  go_wp2_with fail
  refine (reachAll_any (W.heap.size + 1) W.heap.size B hc rc has.length rn HA RA has l [] s1 t1 w1 H1.out.1 (HH.out.1.below (hbl1.mono hB)) (by omega) HH.out.2.2.1 H1.out.2.1 (by omega) (by omega) (fun l hl => by have := HH.out.2.2.2.2.1 l hl; omega)).mono ?_
  rintro e w2 ⟨rfl, ⟨s2, hR2, hI2, hG2⟩, hb2⟩
  have hbl2 := hbl1.trans (hb2.mono (by omega))
  obtain ⟨S, T, c, d, r1, r2, r3, r4⟩ := hR2
  have hfin := hI2.done (fun n hn => hG2 n (H1.out.2.2.1 n hn)) (fun k v _ hp => by simp at hp)
  have hsl := hI2.len
  rw [hsl] at r1
  rw [hfin] at r2
  have q2 := r1.cell 2 rfl
  have HO := Lib.hid r2
  clear r1 r2 r3 hI2 hG2 hfin
  go_wp2_with fail
  go_ret
  exact ⟨S, c, rfl, HO.out.base_le (by omega), hbl2⟩

set_option maxHeartbeats 800000 in
set_option maxRecDepth 100000 in
theorem wrising_any (A : Option Addr) (c B n : Nat) (l : List Bool) (w : World) (hn : l.length = n) (h : At w B A l) (hB : B ≤ w.heap.size) (hl : n ≤ 1000000) :
    Calls Try.prog 104 #[.slice A n c] w fun e w' => ∃ A' c', e = .returned (.slice A' (rising l).length c') ∧ Own w' w.heap.size 3 A' c' (rising l) ∧ Below w.heap.size w w' := by
  obtain ⟨i0, hi, hz0, hz1, hz2⟩ := info_parts infoInt
  have H := Lib.hid (And.intro h hn); clear h hn
  go_enter Try.func104, Try.ntmps104
  go_wp2
  go_loopg [3, 8] (n) (fun gk ov iv wr => ∃ (k : Nat) (A1 : Option Addr) (c1 : Nat), k ≤ n ∧ gk = n - k ∧ iv = .int .i64 k ∧ ov = .slice A1 (rising (l.take k)).length c1 ∧ Hid (Own wr w.heap.size 3 A1 c1 (rising (l.take k))) ∧ Below w.heap.size w wr)
  case atStart => exact ⟨0, none, 0, Nat.zero_le _, rfl, rfl, rfl, Own.nil_, Below.refl _ _⟩
  case round =>
    obtain ⟨k, A1, c1, hk, rfl, rfl, rfl, hkeep, hbl⟩ := hrel
    have hsz := hbl.size
    by_cases hlt : k < n
    · obtain ⟨b, o, x, rfl, hb, hx, h0⟩ := (H.out.1.below (hbl.mono hB)).bool_ (by have := H.out.2; omega : k < l.length)
      have hsn := rising_snoc l k x hx
      have hrl : (rising (l.take k)).length ≤ k := by have := rising_length (l.take k); rw [List.length_take] at this; omega
      cases x with
      | false =>
        rw [if_neg (by simp), List.append_nil] at hsn
        have HS := Lib.hid hsn; clear hsn hx
        go_wp2_with fail
        go_roundg (n - (k + 1))
        case measure => omega
        case rel => exact ⟨k + 1, A1, c1, by omega, rfl, by go_num, by rw [HS.out], by unfold Hid; rw [HS.out]; exact hkeep.out, hbl⟩
      | true =>
        rw [if_pos rfl] at hsn
        have HS := Lib.hid hsn; clear hsn hx
        go_wp2_with (at_builtin; go_must (refine wpList_app (α := Int) (m := 1) (B := wr.heap.size + 1) (r := [(k : Int)]) rfl (.tmp 14) (.tmp 16) _ rfl w.heap.size 3 i0 _ 8 Try.underlying47 hi hz0 hz1 hz2 rfl (by decide) int_one (by rfl) rfl (hkeep.out.alloc _) (by rfl) ?_ rfl (by omega) (by simp only [maxLen]; omega) (by simp; omega) ?_))
        · exact At.built wr _ _ [(k : Int)] rfl (by intro z hz; simp at hz; subst hz; exact (by unfold I64; omega : I64 (k : Int)))
        intro A2 c2 w2 hown2 hgr2 hat2
        have hbl2 : Below w.heap.size w w2 := (hbl.alloc hsz _).grown hgr2 (by simp; omega) (fun g hg => (hkeep.out.lt g hg).1)
        have HO2 := Lib.hid hown2; clear hown2
        go_wp2_with fail
        go_roundg (n - (k + 1))
        case measure => omega
        case rel => exact ⟨k + 1, A2, c2, by omega, rfl, by go_num, by rw [HS.out, List.length_append]; rfl, by unfold Hid; rw [HS.out]; exact HO2.out, hbl2⟩
    · have hk2 := hkeep.out
      rw [List.take_of_length_le (by have := H.out.2; omega)] at hk2
      have hk3 : l.take k = l := List.take_of_length_le (by have := H.out.2; omega)
      rw [hk3]
      have HK := Lib.hid hk2; clear hk2 hkeep hk3
      go_wp2_with fail
      go_ret
      exact ⟨A1, c1, rfl, HK.out, hbl⟩

set_option maxHeartbeats 800000 in
set_option maxRecDepth 100000 in
theorem rrising_any (A : Option Addr) (c B n : Nat) (l : List Bool) (w : World) (hn : l.length = n) (h : At w B A l) (hB : B ≤ w.heap.size) (hl : n ≤ 1000000) :
    Calls Try.prog 32 #[.slice A n c] w fun e w' => ∃ A' c', e = .returned (.slice A' (rising l).length c') ∧ Own w' w.heap.size 3 A' c' (rising l) ∧ Below w.heap.size w w' := by
  obtain ⟨i0, hi, hz0, hz1, hz2⟩ := info_parts infoInt
  have H := Lib.hid (And.intro h hn); clear h hn
  go_enter Try.func32, Try.ntmps32
  go_wp2
  go_loopg [3, 8] (n) (fun gk ov iv wr => ∃ (k : Nat) (A1 : Option Addr) (c1 : Nat), k ≤ n ∧ gk = n - k ∧ iv = .int .i64 k ∧ ov = .slice A1 (rising (l.take k)).length c1 ∧ Hid (Own wr w.heap.size 3 A1 c1 (rising (l.take k))) ∧ Below w.heap.size w wr)
  case atStart => exact ⟨0, none, 0, Nat.zero_le _, rfl, rfl, rfl, Own.nil_, Below.refl _ _⟩
  case round =>
    obtain ⟨k, A1, c1, hk, rfl, rfl, rfl, hkeep, hbl⟩ := hrel
    have hsz := hbl.size
    by_cases hlt : k < n
    · obtain ⟨b, o, x, rfl, hb, hx, h0⟩ := (H.out.1.below (hbl.mono hB)).bool_ (by have := H.out.2; omega : k < l.length)
      have hsn := rising_snoc l k x hx
      have hrl : (rising (l.take k)).length ≤ k := by have := rising_length (l.take k); rw [List.length_take] at this; omega
      cases x with
      | false =>
        rw [if_neg (by simp), List.append_nil] at hsn
        have HS := Lib.hid hsn; clear hsn hx
        go_wp2_with fail
        go_roundg (n - (k + 1))
        case measure => omega
        case rel => exact ⟨k + 1, A1, c1, by omega, rfl, by go_num, by rw [HS.out], by unfold Hid; rw [HS.out]; exact hkeep.out, hbl⟩
      | true =>
        rw [if_pos rfl] at hsn
        have HS := Lib.hid hsn; clear hsn hx
        go_wp2_with (at_builtin; go_must (refine wpList_app (α := Int) (m := 1) (B := wr.heap.size + 1) (r := [(k : Int)]) rfl (.tmp 14) (.tmp 16) _ rfl w.heap.size 3 i0 _ 8 Try.underlying47 hi hz0 hz1 hz2 rfl (by decide) int_one (by rfl) rfl (hkeep.out.alloc _) (by rfl) ?_ rfl (by omega) (by simp only [maxLen]; omega) (by simp; omega) ?_))
        · exact At.built wr _ _ [(k : Int)] rfl (by intro z hz; simp at hz; subst hz; exact (by unfold I64; omega : I64 (k : Int)))
        intro A2 c2 w2 hown2 hgr2 hat2
        have hbl2 : Below w.heap.size w w2 := (hbl.alloc hsz _).grown hgr2 (by simp; omega) (fun g hg => (hkeep.out.lt g hg).1)
        have HO2 := Lib.hid hown2; clear hown2
        go_wp2_with fail
        go_roundg (n - (k + 1))
        case measure => omega
        case rel => exact ⟨k + 1, A2, c2, by omega, rfl, by go_num, by rw [HS.out, List.length_append]; rfl, by unfold Hid; rw [HS.out]; exact HO2.out, hbl2⟩
    · have hk2 := hkeep.out
      rw [List.take_of_length_le (by have := H.out.2; omega)] at hk2
      have hk3 : l.take k = l := List.take_of_length_le (by have := H.out.2; omega)
      rw [hk3]
      have HK := Lib.hid hk2; clear hk2 hkeep hk3
      go_wp2_with fail
      go_ret
      exact ⟨A1, c1, rfl, HK.out, hbl⟩

end Go.Proofs.Ytpkccpegdpodoaa

/- A region that draws, where three operations are ready at once: all orders. No program is named here. -/
namespace Go.Proofs.Ytpkccpegdpodoaa
open Go.RowKit

section
variable {P : Program} {ops : Array Oper} {Q : Exit → Act → World → Prop} {md : Region.Mode} {S : World → Prop} {fuel : Nat} {listed : Array Bool} {a : Act} {w : World}
theorem held_call3 (i j k : Nat) {oi oj ok : Oper} (hr : Region.ready md ops listed = [i, j, k]) (hi : ops.toList[i]? = some oi) (hj : ops.toList[j]? = some oj) (hk : ops.toList[k]? = some ok)
    (h1 : ∀ K' : Act → World → Prop, Shut (∀ a w, S w → (S w → wpAnyH P md ops Q S fuel (listed.setIfInBounds i true) a w) → K' a w) → if Region.wanted oi (yielded ops a.tmps) = true then Oper.wp P oi a w K' Q else K' (a.put oi.dst undef) w)
    (h2 : ∀ K' : Act → World → Prop, Shut (∀ a w, S w → (S w → wpAnyH P md ops Q S fuel (listed.setIfInBounds j true) a w) → K' a w) → if Region.wanted oj (yielded ops a.tmps) = true then Oper.wp P oj a w K' Q else K' (a.put oj.dst undef) w)
    (h3 : ∀ K' : Act → World → Prop, Shut (∀ a w, S w → (S w → wpAnyH P md ops Q S fuel (listed.setIfInBounds k true) a w) → K' a w) → if Region.wanted ok (yielded ops a.tmps) = true then Oper.wp P ok a w K' Q else K' (a.put ok.dst undef) w) :
    wpAnyH P md ops Q S (fuel + 1) listed a w := wpAnyH_ready hr (by simp) (AllReadyH.cons (oi_of hi) h1 (AllReadyH.cons (oi_of hj) h2 (AllReadyH.cons (oi_of hk) h3 AllReadyH.nil)))
end

end Go.Proofs.Ytpkccpegdpodoaa
