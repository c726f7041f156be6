/- Things in a row of the call's own, each with a row of places of its own: read, stored into; what a deed touches. -/
import Derived.Test.YtpkccpegdpodoaaRaws
import Derived.Test.YtpkccpegdpodoaaSlc
import Derived.Test.YtpkccpegdpodoaaSteps
import Derived.Test.YtpkccpegdpodoaaMarkN
namespace Go.Proofs.Ytpkccpegdpodoaa
open Go.RowKit

/-- a thing as it lies: where its places are -/
structure ItR where
  A : Option Addr
  c : Nat
  has : List Int
  st : Int
  held : Bool
instance : Flat ItR where
  cells x := [.slice x.A x.has.length x.c, .int .i64 x.st, .bool x.held]
  sz := 3
  len _ := rfl
  ok _ := True
def ItR.it (x : ItR) : It := ⟨x.has, x.st, x.held⟩
theorem itr_one : ∀ x : ItR, ∀ u ∈ Flat.cells x, u.oneCell' = true := by
  intro x u hu
  simp only [Flat.cells, List.mem_cons, List.not_mem_nil, or_false] at hu
  rcases hu with rfl | rfl | rfl <;> rfl

/-- all but the blocks of F is as it was -/
structure Touch (F : Nat → Prop) (w w' : World) : Prop where
  os : w'.os = w.os
  tape : w'.tape = w.tape
  output : w'.output = w.output
  size : w.heap.size ≤ w'.heap.size
  block : ∀ g, g < w.heap.size → ¬ F g → w'.heap[g]? = w.heap[g]?

section
variable {F F' : Nat → Prop} {w w1 w' : World} {base : Nat}
theorem Touch.refl (F : Nat → Prop) (w : World) : Touch F w w := ⟨rfl, rfl, rfl, Nat.le_refl _, fun _ _ _ => rfl⟩
theorem Touch.trans (h : Touch F w w1) (h' : Touch F w1 w') : Touch F w w' :=
  ⟨h'.os.trans h.os, h'.tape.trans h.tape, h'.output.trans h.output, Nat.le_trans h.size h'.size, fun g hg hF => (h'.block g (Nat.lt_of_lt_of_le hg h.size) hF).trans (h.block g hg hF)⟩
theorem Touch.mono (h : Touch F w w') (hF : ∀ g, g < w.heap.size → F g → F' g) : Touch F' w w' := ⟨h.os, h.tape, h.output, h.size, fun g hg hn => h.block g hg (fun h1 => hn (hF g hg h1))⟩
theorem Touch.ofBelow (h : Below w.heap.size w w') : Touch F w w' := ⟨h.os, h.tape, h.output, h.size, fun g hg _ => h.block g hg⟩
theorem Touch.below (h : Touch F w w') (hF : ∀ g, F g → base ≤ g) (hb : base ≤ w.heap.size) : Below base w w' := ⟨h.os, h.tape, h.output, h.size, fun g hg => h.block g (by omega) (fun h1 => by have := hF g h1; omega)⟩
theorem Touch.setCell (h : Touch F w w1) {p : Addr} (hp : F p.block) (u : Value) : Touch F w (w1.setCell p u) :=
  ⟨h.os, h.tape, h.output, by have := h.size; simp [World.setCell]; exact this, fun g hg hF => (Below.heap_setCell _ _ _ _ (fun e => hF (by rw [e]; exact hp))).trans (h.block g hg hF)⟩
theorem Touch.alloc (h : Touch F w w1) (o : Obj) : Touch F w (w1.alloc o) :=
  ⟨h.os, h.tape, h.output, by have := h.size; simp; omega, fun g hg hF => (Below.heap_alloc w1 o g (by have := h.size; omega)).trans (h.block g hg hF)⟩
theorem Touch.drew (h : Touch F w w1) : Touch F w w1.drew := ⟨h.os, h.tape, h.output, h.size, h.block⟩
theorem Touch.drewN (h : Touch F w w1) (n : Nat) : Touch F w (w1.drewN n) := ⟨h.os, h.tape, h.output, h.size, h.block⟩
theorem Touch.grown (h : Touch F w w1) {row : Option Nat} (hg : w1.grownBy w' row) (hr : ∀ g, row = some g → F g) : Touch F w w' :=
  ⟨hg.os.trans h.os, hg.tape.trans h.tape, hg.output.trans h.output, Nat.le_trans h.size hg.size, fun g hl hF => (hg.block g (by have := h.size; omega) (fun e => hF (hr g e.symm))).trans (h.block g hl hF)⟩
theorem Touch.setRow (h : Touch F w w1) {g : Nat} (hp : F g) (cs : Array Value) : Touch F w (w1.setRow g cs) :=
  ⟨h.os, h.tape, h.output, by have := h.size; simp; exact this, fun k hg hF => (setRow_other w1 g k cs (fun e => hF (by rw [e]; exact hp))).trans (h.block k hg hF)⟩
theorem Touch.fresh (h : Touch F w w1) (hb : Below w1.heap.size w1 w') : Touch F w w' := h.trans (Touch.ofBelow hb)
end

/-- F and the blocks that came between two worlds -/
def Up (F : Nat → Prop) (w w' : World) (g : Nat) : Prop := F g ∨ w.heap.size ≤ g ∧ g < w'.heap.size
theorem Up.old {F : Nat → Prop} {w w' : World} {g : Nat} (h : F g) : Up F w w' g := .inl h
theorem Up.more {F : Nat → Prop} {w w1 w' : World} (h : w1.heap.size ≤ w'.heap.size) {g : Nat} (hg : Up F w w1 g) : Up F w w' g := hg.elim .inl fun h1 => .inr ⟨h1.1, by omega⟩

/-- THINGS: the slice (A, length, c) of type T, in blocks of F from base on -/
structure Its (w : World) (base : Nat) (F : Nat → Prop) (T : TypeId) (A : Option Addr) (c : Nat) (l : List ItR) : Prop where
  row : Own w base T A c l
  foot : ∀ g, rowOf A = some g → F g
  sub : ∀ (i : Nat) (x : ItR), l[i]? = some x → Own w base 3 x.A x.c x.has ∧ (∀ g, rowOf x.A = some g → F g) ∧ (∀ k ∈ x.has, I64 k) ∧ I64 x.st
  apart : ∀ (i j : Nat) (x y : ItR), i ≠ j → l[i]? = some x → l[j]? = some y → ∀ g, rowOf x.A = some g → rowOf y.A ≠ some g

section
variable {w w' : World} {base : Nat} {F F' : Nat → Prop} {T : TypeId} {A : Option Addr} {c : Nat} {l : List ItR}
theorem Its.keep (h : Its w base F T A c l) (hk : ∀ g, F g → g < w.heap.size → w'.heap[g]? = w.heap[g]?) : Its w' base F T A c l :=
  ⟨h.row.block_ (fun g hg => hk g (h.foot g hg) (h.row.lt g hg).2), h.foot, fun i x hx => ⟨(h.sub i x hx).1.block_ (fun g hg => hk g ((h.sub i x hx).2.1 g hg) ((h.sub i x hx).1.lt g hg).2), (h.sub i x hx).2⟩, h.apart⟩
theorem Its.mono (h : Its w base F T A c l) (hF : ∀ g, F g → F' g) : Its w base F' T A c l :=
  ⟨h.row, fun g hg => hF g (h.foot g hg), fun i x hx => ⟨(h.sub i x hx).1, fun g hg => hF g ((h.sub i x hx).2.1 g hg), (h.sub i x hx).2.2⟩, h.apart⟩
theorem Its.fresh (h : Its w base F T A c l) (hb : Below w.heap.size w w') : Its w' base F T A c l := h.keep fun g _ hg => hb.block g hg
theorem Its.alloc (h : Its w base F T A c l) (o : Obj) : Its (w.alloc o) base F T A c l := h.keep fun g _ hg => Below.heap_alloc w o g hg
theorem Its.drew (h : Its w base F T A c l) : Its w.drew base F T A c l := h.keep fun _ _ _ => rfl
theorem Its.drewN (h : Its w base F T A c l) (n : Nat) : Its (w.drewN n) base F T A c l := h.keep fun _ _ _ => rfl
theorem Its.far (h : Its w base F T A c l) {p : Addr} (hp : ¬ F p.block) (u : Value) : Its (w.setCell p u) base F T A c l := h.keep fun g hg _ => Below.heap_setCell _ _ _ _ (fun e => hp (by rw [← e]; exact hg))
theorem Its.touch (h : Its w base F T A c l) {G : Nat → Prop} (ht : Touch G w w') (hd : ∀ g, F g → ¬ G g) : Its w' base F T A c l := h.keep fun g hg hl => ht.block g hl (hd g hg)
/-- a store into a block that holds no thing's places, and is not the row -/
theorem Its.other (h : Its w base F T A c l) {p : Addr} (h1 : rowOf A ≠ some p.block) (h2 : ∀ (i : Nat) (x : ItR), l[i]? = some x → rowOf x.A ≠ some p.block) (u : Value) : Its (w.setCell p u) base F T A c l :=
  ⟨h.row.setCell p u h1, h.foot, fun i x hx => ⟨(h.sub i x hx).1.setCell p u (h2 i x hx), (h.sub i x hx).2⟩, h.apart⟩
theorem Its.row_ne (h : Its w base F T A c l) (hT : T ≠ 3) {i : Nat} {x : ItR} (hx : l[i]? = some x) : ∀ g, rowOf A = some g → rowOf x.A ≠ some g := own_own_ty h.row (h.sub i x hx).1 hT
/-- a block known whole of another type is none of them -/
theorem Its.far_blk (h : Its w base F T A c l) {g : Nat} {t : TypeId} {cs : Array Value} (hg : Blk w g t cs) (h1 : T ≠ t) (h2 : 3 ≠ t) (i : Nat) (u : Value) : Its (w.setCell ⟨g, i, none⟩ u) base F T A c l :=
  h.other (own_ne_ty h.row hg h1) (fun _ _ hx => own_ne_ty (h.sub _ _ hx).1 hg h2) u
theorem Its.cells (h : Its w base F T A c l) {i : Nat} {x : ItR} (hx : l[i]? = some x) :
    ∃ g, A = some ⟨g, 0, none⟩ ∧ base ≤ g ∧ g < w.heap.size ∧ w.cell? ⟨g, i * 3, none⟩ = some (.slice x.A x.has.length x.c) ∧ w.cell? ⟨g, i * 3 + 1, none⟩ = some (.int .i64 x.st) ∧ w.cell? ⟨g, i * 3 + 2, none⟩ = some (.bool x.held) := by
  have hi : i < l.length := (List.getElem?_eq_some_iff.1 hx).1
  obtain ⟨g, rfl, h1, h2⟩ := h.row.some_ (by omega)
  have hc := h.row.cells_ (g := g) (o := 0) rfl
  have e0 := hc (i * 3 + 0) _ (flat_get l i 0 x hx (by decide))
  have e1 := hc (i * 3 + 1) _ (flat_get l i 1 x hx (by decide))
  have e2 := hc (i * 3 + 2) _ (flat_get l i 2 x hx (by decide))
  simp only [Nat.zero_add, Nat.add_zero] at e0 e1 e2
  exact ⟨g, rfl, h1, h2, e0, e1, e2⟩
theorem set_case {α : Type} {l : List α} {i k : Nat} {x y : α} (hk : (l.set i x)[k]? = some y) : k = i ∧ i < l.length ∧ y = x ∨ k ≠ i ∧ l[k]? = some y := by
  rw [List.getElem?_set] at hk
  split at hk
  · rename_i e
    split at hk
    · rename_i hl; injection hk with hk; exact .inl ⟨e.symm, hl, hk.symm⟩
    · cases hk
  · rename_i e; exact .inr ⟨fun h => e h.symm, hk⟩
/-- the row has another element; its places are where they were -/
theorem Its.put {g i : Nat} {x y : ItR} (h : Its w base F T (some ⟨g, 0, none⟩) c l) (hx : l[i]? = some x) (hT : T ≠ 3) (hrow : Own w' base T (some ⟨g, 0, none⟩) c (l.set i y)) (hoth : ∀ k, k ≠ g → w'.heap[k]? = w.heap[k]?) (hA : y.A = x.A ∨ y.A = none) (hsub : Own w base 3 y.A y.c y.has)
    (hk : ∀ k ∈ y.has, I64 k) (hst : I64 y.st) : Its w' base F T (some ⟨g, 0, none⟩) c (l.set i y) := by
  have hfoot : ∀ k, rowOf y.A = some k → rowOf x.A = some k := by
    intro k hy
    rcases hA with e | e
    · rw [← e]; exact hy
    · rw [e] at hy; cases hy
  refine ⟨hrow, h.foot, fun j z hz => ?_, fun a b z1 z2 hab h1 h2 => ?_⟩
  · rcases set_case hz with ⟨rfl, hl, rfl⟩ | ⟨hne, hz⟩
    · exact ⟨hsub.block_ (fun k hk2 => hoth k (fun e => h.row_ne hT hx g rfl (by rw [hfoot k hk2, e]))), fun k hk2 => (h.sub _ x hx).2.1 k (hfoot k hk2), hk, hst⟩
    · exact ⟨(h.sub j z hz).1.block_ (fun k hk2 => hoth k (fun e => h.row_ne hT hz g rfl (by rw [hk2, e]))), (h.sub j z hz).2⟩
  · intro k hk1
    rcases set_case h1 with ⟨rfl, _, rfl⟩ | ⟨hne1, q1⟩
    · rcases set_case h2 with ⟨rfl, _, rfl⟩ | ⟨hne2, q2⟩
      · exact absurd rfl hab
      · exact h.apart _ b x z2 (fun e => hne2 e.symm) hx q2 k (hfoot k hk1)
    · rcases set_case h2 with ⟨rfl, _, rfl⟩ | ⟨hne2, q2⟩
      · exact fun hy => h.apart a _ z1 x hne1 q1 hx k hk1 (hfoot k hy)
      · exact h.apart a b z1 z2 hab q1 q2 k hk1
theorem Its.setSt {g i : Nat} {x : ItR} (h : Its w base F T (some ⟨g, 0, none⟩) c l) (hx : l[i]? = some x) (hT : T ≠ 3) (v : Int) (hv : I64 v) :
    Its (w.setCell ⟨g, i * 3 + 1, none⟩ (.int .i64 v)) base F T (some ⟨g, 0, none⟩) c (l.set i { x with st := v }) :=
  h.put (y := { x with st := v }) hx hT (h.row.set_ (j := 1) (u := .int .i64 v) rfl hx (by decide) rfl) (fun k hk => Below.heap_setCell _ _ _ _ hk) (.inl rfl) (h.sub i x hx).1 (h.sub i x hx).2.2.1 hv
theorem Its.setHeld {g i : Nat} {x : ItR} (h : Its w base F T (some ⟨g, 0, none⟩) c l) (hx : l[i]? = some x) (hT : T ≠ 3) (b : Bool) :
    Its (w.setCell ⟨g, i * 3 + 2, none⟩ (.bool b)) base F T (some ⟨g, 0, none⟩) c (l.set i { x with held := b }) :=
  h.put (y := { x with held := b }) hx hT (h.row.set_ (j := 2) (u := .bool b) rfl hx (by decide) rfl) (fun k hk => Below.heap_setCell _ _ _ _ hk) (.inl rfl) (h.sub i x hx).1 (h.sub i x hx).2.2.1 (h.sub i x hx).2.2.2
/-- a thing that is gone -/
theorem Its.setGone {g i : Nat} {x : ItR} (h : Its w base F T (some ⟨g, 0, none⟩) c l) (hx : l[i]? = some x) (hT : T ≠ 3) (v : Int) (hv : I64 v) :
    Its (((w.setCell ⟨g, i * 3, none⟩ (.slice none 0 0)).setCell ⟨g, i * 3 + 1, none⟩ (.int .i64 v)).setCell ⟨g, i * 3 + 2, none⟩ (.bool false)) base F T (some ⟨g, 0, none⟩) c (l.set i ⟨none, 0, [], v, false⟩) := by
  have hi : i < l.length := (List.getElem?_eq_some_iff.1 hx).1
  have h1 := h.row.set_ (j := 0) (y := (⟨none, 0, [], x.st, x.held⟩ : ItR)) (u := .slice none 0 0) rfl hx (by decide) rfl
  have h2 := h1.set_ (i := i) (j := 1) (x := (⟨none, 0, [], x.st, x.held⟩ : ItR)) (y := (⟨none, 0, [], v, x.held⟩ : ItR)) (u := .int .i64 v) rfl (by rw [List.getElem?_set_self hi]) (by decide) rfl
  have h3 := h2.set_ (i := i) (j := 2) (x := (⟨none, 0, [], v, x.held⟩ : ItR)) (y := (⟨none, 0, [], v, false⟩ : ItR)) (u := .bool false) rfl (by rw [List.set_set, List.getElem?_set_self hi]) (by decide) rfl
  rw [List.set_set, List.set_set] at h3
  exact h.put (y := ⟨none, 0, [], v, false⟩) hx hT h3 (fun k hk => by rw [Below.heap_setCell _ _ _ _ hk, Below.heap_setCell _ _ _ _ hk, Below.heap_setCell _ _ _ _ hk]) (.inr rfl) Own.nil_ (by simp) hv
/-- a place is set -/
theorem Its.setHas {g i j : Nat} {x : ItR} (h : Its w base F T A c l) (hx : l[i]? = some x) (hT : T ≠ 3) (hA : x.A = some ⟨g, 0, none⟩) (hj : j < x.has.length) (v : Int) (hv : I64 v) :
    Its (w.setCell ⟨g, j, none⟩ (.int .i64 v)) base F T A c (l.set i { x with has := x.has.set j v }) := by
  have hi : i < l.length := (List.getElem?_eq_some_iff.1 hx).1
  have hxs := h.sub i x hx
  have hrowne : rowOf A ≠ some g := fun e => h.row_ne hT hx g e (by rw [hA]; rfl)
  have hsame : flat (l.set i { x with has := x.has.set j v }) = flat l := by
    have := flat_set l i x 1 (.int .i64 x.st) { x with has := x.has.set j v } hx (by decide) (by simp [Flat.cells])
    rw [← this]
    have hg := flat_get l i 1 x hx (by decide)
    apply List.ext_getElem?
    intro k
    rw [List.getElem?_set]
    split
    · rename_i e
      subst e
      rw [hg]
      have := (List.getElem?_eq_some_iff.1 (hg.trans (by rfl : (Flat.cells x)[1]? = some (.int .i64 x.st)))).1
      rw [if_pos this]; rfl
    · rfl
  refine ⟨?_, h.foot, fun k z hz => ?_, fun a b z1 z2 hab h1 h2 => ?_⟩
  · have := h.row.setCell ⟨g, j, none⟩ (.int .i64 v) hrowne
    unfold Own at this ⊢
    rw [List.length_set, hsame]
    exact this
  · rcases set_case hz with ⟨rfl, _, rfl⟩ | ⟨hne, hz⟩
    · refine ⟨?_, hxs.2.1, fun k hk => ?_, hxs.2.2.2⟩
      · have h0 := hxs.1
        simp only [hA] at h0 ⊢
        exact h0.set_int v hj
      · rcases List.mem_or_eq_of_mem_set hk with e | e
        · exact hxs.2.2.1 k e
        · rw [e]; exact hv
    · refine ⟨(h.sub k z hz).1.setCell _ _ (fun e => h.apart k i z x hne hz hx g e (by rw [hA]; rfl)), (h.sub k z hz).2⟩
  · intro q hq
    rcases set_case h1 with ⟨rfl, _, rfl⟩ | ⟨hne1, q1⟩
    · rcases set_case h2 with ⟨rfl, _, rfl⟩ | ⟨hne2, q2⟩
      · exact absurd rfl hab
      · exact h.apart _ b x z2 (fun e => hne2 e.symm) hx q2 q hq
    · rcases set_case h2 with ⟨rfl, _, rfl⟩ | ⟨hne2, q2⟩
      · exact h.apart a _ z1 x hne1 q1 hx q hq
      · exact h.apart a b z1 z2 hab q1 q2 q hq
/-- one more thing -/
theorem Its.push {A' : Option Addr} {c' : Nat} {y : ItR} (h : Its w base F T A c l) (hT : T ≠ 3) (hrow : Own w' base T A' c' (l ++ [y])) (hg : w.grownBy w' (rowOf A)) (hat : rowOf A' = rowOf A ∨ rowOf A' = some w.heap.size) (hF : ∀ g, F g → F' g)
    (hnew : ∀ g, rowOf A' = some g → F' g) (hy : Own w base 3 y.A y.c y.has) (hyF : ∀ g, rowOf y.A = some g → F' g ∧ ¬ F g) (hk : ∀ k ∈ y.has, I64 k) (hst : I64 y.st) : Its w' base F' T A' c' (l ++ [y]) := by
  have case_ : ∀ {i : Nat} {x : ItR}, (l ++ [y])[i]? = some x → l[i]? = some x ∨ i = l.length ∧ x = y := by
    intro i x hi
    have hlt := (List.getElem?_eq_some_iff.1 hi).1
    rw [List.length_append, List.length_singleton] at hlt
    by_cases e : i < l.length
    · rw [List.getElem?_append_left e] at hi; exact .inl hi
    · obtain rfl : i = l.length := by omega
      simp at hi; exact .inr ⟨rfl, hi.symm⟩
  have grow : ∀ {z : ItR}, Own w base 3 z.A z.c z.has → Own w' base 3 z.A z.c z.has := fun {z} hz => hz.grown hg (fun g hg' e => own_own_ty h.row hz hT g e hg')
  refine ⟨hrow, hnew, fun i x hx => ?_, fun i j a b hij h1 h2 g hg1 hg2 => ?_⟩
  · rcases case_ hx with hx | ⟨-, rfl⟩
    · exact ⟨grow (h.sub i x hx).1, fun g hg' => hF g ((h.sub i x hx).2.1 g hg'), (h.sub i x hx).2.2⟩
    · exact ⟨grow hy, fun g hg' => (hyF g hg').1, hk, hst⟩
  · rcases case_ h1 with q1 | ⟨e1, rfl⟩
    · rcases case_ h2 with q2 | ⟨e2, rfl⟩
      · exact h.apart i j a b hij q1 q2 g hg1 hg2
      · exact (hyF g hg2).2 ((h.sub i a q1).2.1 g hg1)
    · rcases case_ h2 with q2 | ⟨e2, rfl⟩
      · exact (hyF g hg1).2 ((h.sub j b q2).2.1 g hg2)
      · omega
theorem Its.nil_ (w : World) (base : Nat) (F : Nat → Prop) (T : TypeId) : Its w base F T none 0 [] := ⟨Own.nil_, fun g h => (by cases h), fun i x h => (by simp at h), fun i j x y _ h => (by simp at h)⟩
end

/-! ### what things are -/
def its (l : List ItR) : List It := l.map ItR.it
theorem its_length (l : List ItR) : (its l).length = l.length := by simp [its]
theorem its_get {l : List ItR} {i : Nat} {x : ItR} (h : l[i]? = some x) : (its l)[i]? = some x.it := by unfold its; rw [List.getElem?_map, h]; rfl
theorem get_its {l : List ItR} {i : Nat} {y : It} (h : (its l)[i]? = some y) : ∃ x, l[i]? = some x ∧ x.it = y := by
  unfold its at h
  rw [List.getElem?_map] at h
  cases hs : l[i]? with
  | none => rw [hs] at h; cases h
  | some x => rw [hs] at h; injection h with h; exact ⟨x, rfl, h⟩
theorem its_set (l : List ItR) (i : Nat) (x y : ItR) (f : It → It) (hx : l[i]? = some x) (hf : y.it = f x.it) : its (l.set i y) = (its l).modify i f := by
  apply List.ext_getElem?
  intro j
  rw [get_modify]
  unfold its
  rw [List.getElem?_map, List.getElem?_map]
  by_cases e : i = j
  · subst e
    rw [List.getElem?_set_self (List.getElem?_eq_some_iff.1 hx).1, if_pos rfl, hx]
    simp [hf]
  · rw [List.getElem?_set_ne e, if_neg e]

end Go.Proofs.Ytpkccpegdpodoaa
