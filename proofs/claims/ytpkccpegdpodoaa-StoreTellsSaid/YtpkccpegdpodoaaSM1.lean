/- SM: Base, Rowz, Clone, Raws, Slc, Del, Steps, GraphL, MarkL, MarkM, MarkN, Items, Nan1, Nan2, Nan3, Nan4, Nan5, Nan6, Types, HaulL, HaulM. -/
import Derived.WalkKit
import Derived.WalkLawsBesides
import Derived.WalkSpells
import Derived.Lib.Hide
import Derived.Laws.OwnMore
import Derived.Maps.AppendAt
import Derived.Deep.AppendLies
import Derived.Deep.Draws
import Derived.Deep.Slices
import Derived.Deep.RegionLaw
import Derived.Test.YtpkccpegdpodoaaRows
import Derived.BigQuiet
import Derived.Deep.QuietTactic
import Derived.Laws.BitsLemmas
import Derived.Laws.Bits64
import Derived.IntWalk
import Derived.Maps.OwnSet
/-
  The words by which this family's contracts speak of memory: Go's data as Lean's ('Enc'), a slice that reads as a list ('At'), rows of the call's own. No program is named here.
-/
namespace Go.Proofs.Ytpkccpegdpodoaa
open Go.RowKit

/-- a number that an int holds -/
def I64 (n : Int) : Prop := -9223372036854775808 ≤ n ∧ n ≤ 9223372036854775807

theorem block_of_add (a : Addr) (n : Nat) : (a.add n).block = a.block := by unfold Addr.add; split <;> rfl
theorem add_of_add (a : Addr) (i j : Nat) : (a.add i).add j = a.add (i + j) := by
  unfold Addr.add
  by_cases hi : i = 0 <;> by_cases hj : j = 0 <;> simp [hi, hj, Nat.add_assoc]
theorem add_mk (b o n : Nat) : (⟨b, o, none⟩ : Addr).add n = ⟨b, o + n, none⟩ := by
  unfold Addr.add; split <;> simp_all

/-- the cells cs stand from offset o of block b on -/
def CellsAt (w : World) (b o : Nat) (cs : List Value) : Prop := ∀ j u, cs[j]? = some u → w.cell? ⟨b, o + j, none⟩ = some u

theorem CellsAt.keep {w w' : World} {b o : Nat} {cs : List Value} (h : CellsAt w b o cs) (hk : ∀ p : Addr, p.block = b → w'.cell? p = w.cell? p) : CellsAt w' b o cs :=
  fun j u hu => (hk _ rfl).trans (h j u hu)

/-- a Go type's data as Lean's: how many cells it has, and when cells read as it (all that they lead to lies below block B) -/
class Enc (α : Type) where
  sz : Nat
  rd : World → Nat → List Value → α → Prop
  len : ∀ {w : World} {B : Nat} {cs : List Value} {x : α}, rd w B cs x → cs.length = sz
  keep : ∀ {w w' : World} {B : Nat} {cs : List Value} {x : α}, rd w B cs x → (∀ p : Addr, p.block < B → w'.cell? p = w.cell? p) → rd w' B cs x
  more : ∀ {w : World} {B B' : Nat} {cs : List Value} {x : α}, rd w B cs x → B ≤ B' → rd w B' cs x

/-- a type whose cells are its own: no pointers -/
class Flat (α : Type) where
  cells : α → List Value
  sz : Nat
  len : ∀ x : α, (cells x).length = sz
  ok : α → Prop

instance (priority := low) encOfFlat {α : Type} [Flat α] : Enc α where
  sz := Flat.sz α
  rd _ _ cs x := cs = Flat.cells x ∧ Flat.ok x
  len h := by rw [h.1]; exact Flat.len _
  keep h _ := h
  more h _ := h

instance : Flat Int where
  cells n := [.int .i64 n]
  sz := 1
  len _ := rfl
  ok n := I64 n

/-- the slice address A reads as the list xs -/
def At {α : Type} [Enc α] (w : World) (B : Nat) (A : Option Addr) (xs : List α) : Prop :=
  ∀ i x, xs[i]? = some x → ∃ b o cs, A = some ⟨b, o, none⟩ ∧ b < B ∧ CellsAt w b (o + i * Enc.sz α) cs ∧ Enc.rd w B cs x

section
variable {α : Type} [Enc α] {w w' : World} {B B' : Nat} {A : Option Addr} {xs : List α}
theorem At.nil_ : At w B A ([] : List α) := fun i x h => by simp at h
theorem At.keep (h : At w B A xs) (hk : ∀ p : Addr, p.block < B → w'.cell? p = w.cell? p) : At w' B A xs := fun i x hx => by
  obtain ⟨b, o, cs, hA, hb, hc, hr⟩ := h i x hx
  exact ⟨b, o, cs, hA, hb, hc.keep fun p hp => hk p (by omega), Enc.keep hr hk⟩
theorem At.more (h : At w B A xs) (hB : B ≤ B') : At w B' A xs := fun i x hx => by
  obtain ⟨b, o, cs, hA, hb, hc, hr⟩ := h i x hx
  exact ⟨b, o, cs, hA, by omega, hc, Enc.more hr hB⟩
theorem At.below (h : At w B A xs) (hb : Below B w w') : At w' B A xs := h.keep fun _ hp => hb.cell hp
theorem At.alloc (h : At w B A xs) (hB : B ≤ w.heap.size) (o : Obj) : At (w.alloc o) B A xs := h.keep fun p hp => World.cell?_alloc_lt w o p (by omega)
theorem At.setCell (h : At w B A xs) {p : Addr} (hB : B ≤ p.block) (u : Value) : At (w.setCell p u) B A xs := h.keep fun q hq => World.cell?_setCell_other w p q u (fun e => by subst e; omega)
theorem At.drew (h : At w B A xs) : At w.drew B A xs := h.keep fun _ _ => rfl
theorem At.drewN (h : At w B A xs) (n : Nat) : At (w.drewN n) B A xs := h.keep fun _ _ => rfl
end

instance {α : Type} [Enc α] : Enc (List α) where
  sz := 1
  rd w B cs xs := ∃ A cap, cs = [.slice A xs.length cap] ∧ xs.length ≤ cap ∧ cap ≤ maxLen ∧ (A = none → cap = 0) ∧ At w B A xs
  len h := by obtain ⟨A, cap, rfl, _⟩ := h; rfl
  keep h hk := by obtain ⟨A, cap, h1, h2, h3, h4, h5⟩ := h; exact ⟨A, cap, h1, h2, h3, h4, h5.keep hk⟩
  more h hB := by obtain ⟨A, cap, h1, h2, h3, h4, h5⟩ := h; exact ⟨A, cap, h1, h2, h3, h4, h5.more hB⟩

theorem below_drewN {B : Nat} {a w : World} (h : Below B a w) (n : Nat) : Below B a (w.drewN n) := ⟨h.os, h.tape, h.output, h.size, h.block⟩

theorem undrew {B : Nat} {a w : World} (h : Below B a.drew w) : Below B a w := ⟨h.os, h.tape, h.output, h.size, h.block⟩
theorem undrewN {B : Nat} {a w : World} {n : Nat} (h : Below B (a.drewN n) w) : Below B a w := ⟨h.os, h.tape, h.output, h.size, h.block⟩

theorem Below.cells {B : Nat} {w w' : World} (hb : Below B w w') : ∀ p : Addr, p.block < B → w'.cell? p = w.cell? p := fun _ hp => hb.cell hp

section
variable {α : Type} [Enc α] {w w' : World} {B : Nat} {cs : List Value} {x : α}
theorem Enc.below (h : Enc.rd w B cs x) (hb : Below B w w') : Enc.rd w' B cs x := Enc.keep h (Below.cells hb)
end

end Go.Proofs.Ytpkccpegdpodoaa

/-
  Rows of the call's own, as lists of plain data; append, a store into a row, what stays over later steps.
-/
namespace Go.Proofs.Ytpkccpegdpodoaa
open Go.RowKit

instance : Flat (Int × Int) where
  cells p := [.int .i64 p.1, .int .i64 p.2]
  sz := 2
  len _ := rfl
  ok p := I64 p.1 ∧ I64 p.2
instance : Flat (Int × Int × Int) where
  cells p := [.int .i64 p.1, .int .i64 p.2.1, .int .i64 p.2.2]
  sz := 3
  len _ := rfl
  ok p := I64 p.1 ∧ I64 p.2.1 ∧ I64 p.2.2
/-- a word of 64 bits -/
structure U64 where
  val : Int
instance : Flat U64 where
  cells p := [.int .u64 p.val]
  sz := 1
  len _ := rfl
  ok p := 0 ≤ p.val ∧ p.val ≤ 18446744073709551615

/-- the cells of a list of plain data, one behind the other -/
def flat {α : Type} [Flat α] (l : List α) : List Value := l.flatMap Flat.cells

section
variable {α : Type} [Flat α]
theorem flat_nil : flat ([] : List α) = [] := rfl
theorem flat_cons (x : α) (l : List α) : flat (x :: l) = Flat.cells x ++ flat l := by simp [flat]
theorem flat_append (l r : List α) : flat (l ++ r) = flat l ++ flat r := by simp [flat]
theorem flat_one (x : α) : flat [x] = Flat.cells x := by simp [flat]
theorem flat_length (l : List α) : (flat l).length = l.length * Flat.sz α := by
  induction l with
  | nil => simp [flat]
  | cons x l ih => rw [flat_cons, List.length_append, ih, Flat.len, List.length_cons, Nat.succ_mul]; omega
theorem flat_get (l : List α) (i j : Nat) (x : α) (hx : l[i]? = some x) (hj : j < Flat.sz α) : (flat l)[i * Flat.sz α + j]? = (Flat.cells x)[j]? := by
  induction l generalizing i with
  | nil => simp at hx
  | cons y l ih =>
    rw [flat_cons]
    cases i with
    | zero =>
      simp only [List.getElem?_cons_zero, Option.some.injEq] at hx
      subst hx
      rw [Nat.zero_mul, Nat.zero_add, List.getElem?_append_left (by rw [Flat.len]; exact hj)]
    | succ i =>
      simp only [List.getElem?_cons_succ] at hx
      rw [List.getElem?_append_right (by rw [Flat.len, Nat.succ_mul]; omega), Flat.len, Nat.succ_mul, show i * Flat.sz α + Flat.sz α + j - Flat.sz α = i * Flat.sz α + j by omega]
      exact ih i hx
theorem flat_set (l : List α) (i : Nat) (x : α) (j : Nat) (u : Value) (y : α) (hx : l[i]? = some x) (hj : j < Flat.sz α) (hy : Flat.cells y = (Flat.cells x).set j u) :
    (flat l).set (i * Flat.sz α + j) u = flat (l.set i y) := by
  induction l generalizing i with
  | nil => simp at hx
  | cons z l ih =>
    cases i with
    | zero =>
      simp only [List.getElem?_cons_zero, Option.some.injEq] at hx
      subst hx
      rw [List.set_cons_zero, flat_cons, flat_cons, hy, Nat.zero_mul, Nat.zero_add, List.set_append_left _ _ (by rw [Flat.len]; exact hj)]
    | succ i =>
      simp only [List.getElem?_cons_succ] at hx
      rw [List.set_cons_succ, flat_cons, flat_cons, List.set_append_right _ _ (by rw [Flat.len, Nat.succ_mul]; omega), Flat.len, Nat.succ_mul,
        show i * Flat.sz α + Flat.sz α + j - Flat.sz α = i * Flat.sz α + j by omega, ih i hx]
/-- the cells of a list that a slice reads as -/
theorem At.news {w : World} {B : Nat} {A : Option Addr} {l : List α} (h : At w B A l) (hne : l ≠ []) : ∃ b o, A = some ⟨b, o, none⟩ ∧ b < B ∧ CellsAt w b o (flat l) := by
  obtain ⟨x0, hx0⟩ : ∃ x, l[0]? = some x := by
    cases l with
    | nil => exact absurd rfl hne
    | cons y l => exact ⟨y, rfl⟩
  obtain ⟨b, o, cs, rfl, hb, -, -⟩ := h 0 x0 hx0
  refine ⟨b, o, rfl, hb, fun j u hu => ?_⟩
  have hlt : j < (flat l).length := (List.getElem?_eq_some_iff.1 hu).1
  rw [flat_length] at hlt
  have hs : 0 < Flat.sz α := by
    rcases Nat.eq_zero_or_pos (Flat.sz α) with h0 | h0
    · rw [h0] at hlt; simp at hlt
    · exact h0
  have hi : j / Flat.sz α < l.length := by rw [Nat.div_lt_iff_lt_mul hs]; exact hlt
  obtain ⟨x, hx⟩ : ∃ x, l[j / Flat.sz α]? = some x := ⟨_, List.getElem?_eq_getElem hi⟩
  obtain ⟨b', o', cs', hA, -, hc, hr⟩ := h _ x hx
  simp only [Option.some.injEq, Addr.mk.injEq] at hA
  obtain ⟨rfl, rfl, -⟩ := hA
  have hcs : cs' = Flat.cells x := hr.1
  subst hcs
  have hm := Nat.mod_lt j hs
  have hd := flat_get l (j / Flat.sz α) (j % Flat.sz α) x hx hm
  have he : j / Flat.sz α * Flat.sz α + j % Flat.sz α = j := Nat.div_add_mod' j _
  rw [he] at hd
  have := hc (j % Flat.sz α) u (by rw [← hd]; exact hu)
  have e2 : o + j / Flat.sz α * Enc.sz α + j % Flat.sz α = o + j := by
    show o + j / Flat.sz α * Flat.sz α + j % Flat.sz α = o + j
    omega
  rw [e2] at this
  exact this
end

/-- the row's block of a slice's address -/
def rowOf (A : Option Addr) : Option Nat := A.map (·.block)
theorem ownBlock_slice (A : Option Addr) (n c : Nat) : Value.ownBlock (.slice A n c) = rowOf A := by cases A <;> rfl

/-- THE SLICE (A, length, c) OWNS THE LIST l, in a row among the blocks from base on -/
def Own {α : Type} [Flat α] (w : World) (base : Nat) (e : TypeId) (A : Option Addr) (c : Nat) (l : List α) : Prop :=
  w.ownsRow base e (Flat.sz α) (.slice A l.length c) l.length (flat l)

section
variable {α : Type} [Flat α] {w w' : World} {base : Nat} {e : TypeId} {A : Option Addr} {c : Nat} {l : List α}
theorem Own.nil_ : Own w base e none 0 ([] : List α) := World.ownsRow_nil w base e _
theorem Own.lt (h : Own w base e A c l) : ∀ g, rowOf A = some g → base ≤ g ∧ g < w.heap.size := fun g hg => World.ownsRow.lt h g (by rw [ownBlock_slice]; exact hg)
theorem Own.base_le {base' : Nat} (h : Own w base e A c l) (hb : base' ≤ base) : Own w base' e A c l := by
  refine ⟨h.1, ?_⟩
  rcases h.2 with h2 | ⟨g, cap, cur, hv, hg, r⟩
  · exact .inl h2
  · exact .inr ⟨g, cap, cur, hv, by omega, r⟩
theorem Own.block_ (h : Own w base e A c l) (hb : ∀ g, rowOf A = some g → w'.heap[g]? = w.heap[g]?) : Own w' base e A c l := by
  refine ⟨h.1, ?_⟩
  rcases h.2 with h2 | ⟨g, cap, cur, hv, hg, hh, r⟩
  · exact .inl h2
  · refine .inr ⟨g, cap, cur, hv, hg, ?_, r⟩
    rw [hb g (by injection hv with h1; subst h1; rfl)]; exact hh
theorem Own.fresh (h : Own w base e A c l) (hb : Below w.heap.size w w') : Own w' base e A c l := h.block_ fun g hg => hb.block g (h.lt g hg).2
theorem Own.below {B : Nat} (h : Own w base e A c l) (hb : Below B w w') (hlt : ∀ g, rowOf A = some g → g < B) : Own w' base e A c l := h.block_ fun g hg => hb.block g (hlt g hg)
theorem Own.alloc (h : Own w base e A c l) (o : Obj) : Own (w.alloc o) base e A c l := World.ownsRow.alloc h o
theorem Own.drewN (h : Own w base e A c l) (n : Nat) : Own (w.drewN n) base e A c l := h
theorem Own.drew (h : Own w base e A c l) : Own w.drew base e A c l := h
theorem Own.setCell (h : Own w base e A c l) (p : Addr) (u : Value) (hp : rowOf A ≠ some p.block) : Own (w.setCell p u) base e A c l :=
  h.block_ fun g hg => Below.heap_setCell _ _ _ _ (fun e => hp (by rw [hg, e]))
theorem Own.grown {row : Option Nat} (h : Own w base e A c l) (hg : w.grownBy w' row) (hne : ∀ g, rowOf A = some g → row ≠ some g) : Own w' base e A c l :=
  h.block_ fun g hg' => hg.block g (h.lt g hg').2 (fun e => hne g hg' e.symm)
theorem Own.le_cap (h : Own w base e A c l) : l.length ≤ c ∧ c ≤ maxLen := by
  rcases h.2 with ⟨h1, h2⟩ | ⟨g, cap, cur, hv, hg, hh, h1, h2, _⟩
  · injection h1 with _ h3 h4; rw [h2] at *; subst h4; simp [maxLen]
  · injection hv with _ _ h3; subst h3; exact ⟨h1, h2⟩
theorem Own.at_zero (h : Own w base e A c l) {a : Addr} (hA : A = some a) : ∃ g, a = ⟨g, 0, none⟩ ∧ base ≤ g ∧ g < w.heap.size := by
  rcases h.2 with ⟨h1, _⟩ | ⟨g, cap, cur, hv, hg, hh, _⟩
  · injection h1 with h3; rw [hA] at h3; cases h3
  · injection hv with h3; rw [hA] at h3; injection h3 with h3; subst h3
    exact ⟨g, rfl, hg, (Array.getElem?_eq_some_iff.1 hh).1⟩
theorem Own.some_ (h : Own w base e A c l) (hl : 0 < l.length) : ∃ g, A = some ⟨g, 0, none⟩ ∧ base ≤ g ∧ g < w.heap.size := by
  rcases h.2 with ⟨_, h2⟩ | ⟨g, cap, cur, hv, hg, hh, _⟩
  · omega
  · injection hv with h3; exact ⟨g, h3, hg, (Array.getElem?_eq_some_iff.1 hh).1⟩
theorem Own.cells_ (h : Own w base e A c l) {g o : Nat} {s : Option Nat} (hA : A = some ⟨g, o, s⟩) : CellsAt w g 0 (flat l) := by
  obtain ⟨g', he, -, -⟩ := h.at_zero hA
  injection he with h1 h2 h3
  subst h1 h2 h3 hA
  intro j u hu
  have := World.ownsRow.cells h (g := g) rfl j u hu
  rw [add_mk] at this
  exact this
/-- an owned row reads as its list -/
theorem Own.at_ (h : Own w base e A c l) (hok : ∀ x ∈ l, Flat.ok x) : At w w.heap.size A l := by
  intro i x hx
  have hi : i < l.length := (List.getElem?_eq_some_iff.1 hx).1
  obtain ⟨g, rfl, -, hlt⟩ := h.some_ (by omega)
  refine ⟨g, 0, Flat.cells x, rfl, hlt, fun j u hu => ?_, rfl, hok x (List.mem_of_getElem? hx)⟩
  have hj : j < Flat.sz α := by rw [← Flat.len x]; exact (List.getElem?_eq_some_iff.1 hu).1
  have := h.cells_ rfl (i * Flat.sz α + j) u (by rw [flat_get l i j x hx hj]; exact hu)
  rw [show 0 + i * Enc.sz α + j = 0 + (i * Flat.sz α + j) from by show 0 + i * Flat.sz α + j = _; omega]
  exact this
theorem Own.frozen (h : Own w base e A c l) {g : Nat} (hA : rowOf A = some g) (j : Nat) : w.frozen? ⟨g, j, none⟩ = false := by
  rcases h.2 with ⟨h1, _⟩ | ⟨g', cap, cur, hv, hg, hh, _⟩
  · injection h1 with h3; rw [h3] at hA; cases hA
  · injection hv with h3; rw [h3] at hA; injection hA with hA; subst hA
    simp [World.frozen?, hh]
/-- a store into an owned row -/
theorem Own.set_ (h : Own w base e A c l) {g i j : Nat} {x y : α} {u : Value} (hA : A = some ⟨g, 0, none⟩) (hx : l[i]? = some x) (hj : j < Flat.sz α) (hy : Flat.cells y = (Flat.cells x).set j u) :
    Own (w.setCell ⟨g, i * Flat.sz α + j, none⟩ u) base e A c (l.set i y) := by
  subst hA
  have hl : (l.set i y).length = l.length := List.length_set
  unfold Own
  rw [hl, ← flat_set l i x j u y hx hj hy]
  refine ⟨by rw [List.length_set]; exact h.1, ?_⟩
  rcases h.2 with ⟨h1, _⟩ | ⟨g', cap, cur, hv, hg, hh, h1, h2, h3, h4⟩
  · injection h1 with h3; cases h3
  · injection hv with h5 _ h6; injection h5 with h5; injection h5 with h5; subst h5 h6
    have hi : i < l.length := (List.getElem?_eq_some_iff.1 hx).1
    refine .inr ⟨g, c, cur.setIfInBounds (i * Flat.sz α + j) u, rfl, hg, ?_, h1, h2, by rw [Array.size_setIfInBounds]; exact h3, ?_⟩
    · simp [World.setCell, Array.getElem?_modify, hh]
    · rw [Array.toList_setIfInBounds, List.take_set, h4]
end

/-- a struct of two numbers stored into an owned row -/
theorem Own.set_two {w : World} {base : Nat} {e : TypeId} {c : Nat} {l : List (Int × Int)} [Flat (Int × Int)] {g i : Nat} {x : Int × Int} {a b : Int} (hsz : Flat.sz (Int × Int) = 2) (hcell : ∀ p : Int × Int, Flat.cells p = [.int .i64 p.1, .int .i64 p.2])
    (h : Own w base e (some ⟨g, 0, none⟩) c l) (hx : l[i]? = some x) : Own ((w.setCell ⟨g, i * 2, none⟩ (.int .i64 a)).setCell ⟨g, i * 2 + 1, none⟩ (.int .i64 b)) base e (some ⟨g, 0, none⟩) c (l.set i (a, b)) := by
  have hi : i < l.length := (List.getElem?_eq_some_iff.1 hx).1
  have h1 := h.set_ (j := 0) (y := (a, x.2)) (u := .int .i64 a) rfl hx (by omega) (by rw [hcell, hcell]; rfl)
  have h2 := h1.set_ (i := i) (x := (a, x.2)) (j := 1) (y := (a, b)) (u := .int .i64 b) rfl (by rw [List.getElem?_set_self hi]) (by omega) (by rw [hcell, hcell]; rfl)
  rw [List.set_set, hsz, Nat.add_zero] at h2
  exact h2

/-- a literal's new block reads as its list -/
theorem At.built {α : Type} [Flat α] (w : World) (cs : Array Value) (e : TypeId) (l : List α) (hcs : cs.toList = flat l) (hok : ∀ x ∈ l, Flat.ok x) :
    At (w.alloc (.cells cs e)) (w.heap.size + 1) (some ⟨w.heap.size, 0, none⟩) l := by
  intro i x hx
  refine ⟨w.heap.size, 0, Flat.cells x, rfl, Nat.lt_succ_self _, fun j u hu => ?_, rfl, hok x (List.mem_of_getElem? hx)⟩
  have hj : j < Flat.sz α := by rw [← Flat.len x]; exact (List.getElem?_eq_some_iff.1 hu).1
  rw [World.cell?_alloc_at _ _ _ _ rfl, ← Array.getElem?_toList, hcs, show 0 + i * Enc.sz α + j = i * Flat.sz α + j from by show 0 + i * Flat.sz α + j = _; omega, flat_get l i j x hx hj]
  exact hu

/-- append onto an owned row of what a slice reads as (nil, empty or not) -/
theorem run_app {α : Type} [Flat α] {P : Program} (w : World) (base : Nat) (t ty e : TypeId) (i : TypeInfo) (z : Value) (bytes : Nat) (ht : P.underlying t = some (.slice e)) (hi : P.info? e = some i) (hz : i.zero = some z)
    (hsize : i.size = Flat.sz α) (hby : i.bytes = bytes) (hzs : z.cells.size = Flat.sz α) (hsz : 0 < Flat.sz α) (hone : ∀ x : α, ∀ u ∈ Flat.cells x, u.oneCell' = true)
    {A : Option Addr} {c : Nat} {l : List α} (hown : Own w base e A c l) {B : Nat} {X : Option Addr} {m d : Nat} {r : List α} (hr : At w B X r) (hm : r.length = m)
    (hbytes : (l.length + m) * bytes ≤ 140737488355328) (h63 : l.length + m ≤ maxLen) (hbase : base ≤ w.heap.size) :
    ∃ A' c' w', (Builtin.append_ #[t, t] ty #[.slice A l.length c, .slice X m d]).run P w = .ok (.slice A' (l.length + m) c') w' ∧ Own w' base e A' c' (l ++ r) ∧ w.grownBy w' (rowOf A) ∧
      (rowOf A' = rowOf A ∨ rowOf A' = some w.heap.size) := by
  subst hm
  rcases List.eq_nil_or_concat r with rfl | ⟨r0, x0, hr0⟩
  · -- nothing is appended
    have hcap := hown.le_cap
    refine ⟨A, c, w, ?_, by simpa using hown, World.grownBy.refl w _, .inl rfl⟩
    cases A with
    | none =>
      have hl : l.length = 0 := by
        rcases hown.2 with ⟨_, h2⟩ | ⟨g, cap, cur, hv, _⟩
        · exact h2
        · injection hv with hv; cases hv
      cases X <;> simp [Builtin.append_, run_underlying ht, sizeOf, typeInfo, hi, Builtin.lenOf, Builtin.firstCells, loadCells, loadCellsFrom, hl]
    | some a =>
      cases X <;> simp [Builtin.append_, run_underlying ht, sizeOf, typeInfo, hi, Builtin.lenOf, Builtin.firstCells, loadCells, loadCellsFrom, hcap.1, storeCells]
  · have hne : r ≠ [] := by rw [hr0]; simp
    obtain ⟨b, o, rfl, hb, hc⟩ := hr.news hne
    obtain ⟨v', w', hrun, h2, h3, h4, h5⟩ := run_append_own_at (P := P) w base t ty e i z (Flat.sz α) bytes ht hi hz hsize hby hzs hsz (.slice A l.length c) l.length (flat l) hown ⟨b, o, none⟩ r.length d (flat r)
      (flat_length r) (fun j u hu => by rw [add_mk]; exact hc j u hu) (fun u hu => by
        unfold flat at hu
        obtain ⟨x, -, hx⟩ := List.mem_flatMap.1 hu
        exact hone x u hx) h63 hbytes hbase
    have hlen : (l ++ r).length = l.length + r.length := List.length_append
    rcases h2.2 with ⟨rfl, h6⟩ | ⟨g, cap, cur, rfl, h6⟩
    · have : 0 < r.length := List.length_pos_iff.2 hne
      omega
    · refine ⟨some ⟨g, 0, none⟩, cap, w', hrun, ?_, by rw [ownBlock_slice] at h3; exact h3, by simpa [ownBlock_slice] using h5⟩
      unfold Own
      rw [hlen, flat_append]
      exact h2

theorem wpList_app {α : Type} [Flat α] {P : Program} {w : World} {ops : Array Oper} {rest : List Oper} {o : Oper} {a : Act} {Q : Exit → Act → World → Prop} (hgd : o.guard = none) (s x : Operand) (t : TypeId)
    (ho : o.op = .call { callee := .builtin .append, args := #[s, x], argTypes := #[t, t] })
    (base : Nat) (e : TypeId) (i : TypeInfo) (z : Value) (bytes : Nat) (ht : P.underlying t = some (.slice e)) (hi : P.info? e = some i) (hz : i.zero = some z)
    (hsize : i.size = Flat.sz α) (hby : i.bytes = bytes) (hzs : z.cells.size = Flat.sz α) (hsz : 0 < Flat.sz α) (hone : ∀ x : α, ∀ u ∈ Flat.cells x, u.oneCell' = true)
    {A : Option Addr} {n c : Nat} {l : List α} (hs : a.eval s = .slice A n c) (hn : l.length = n) (hown : Own w base e A c l) {B : Nat} {X : Option Addr} {m d : Nat} {r : List α} (hx : a.eval x = .slice X m d) (hr : At w B X r) (hm : r.length = m)
    (hbytes : (n + m) * bytes ≤ 140737488355328) (h63 : n + m ≤ maxLen) (hbase : base ≤ w.heap.size)
    (h : ∀ A' c' w', Own w' base e A' c' (l ++ r) → w.grownBy w' (rowOf A) → (rowOf A' = rowOf A ∨ rowOf A' = some w.heap.size) → wpList P ops Q rest (a.put o.dst (.slice A' (n + m) c')) w') :
    wpList P ops Q (o :: rest) a w := by
  subst hn
  refine wpList_plain hgd fun K hK => ?_
  obtain ⟨A', c', w', hrun, h2, h3, h4⟩ := run_app (α := α) (P := P) w base t o.type e i z bytes ht hi hz hsize hby hzs hsz hone hown hr hm hbytes h63 hbase
  unfold Oper.wp execOp
  simp only [ho, resolve, invoke, builtin, Sem.run_bind, Sem.run_pure, Result.andThen_ok, List.map_toArray, List.map_cons, List.map_nil, hs, hx]
  rw [hrun]
  exact hK _ _ (h A' c' w' h2 h3 h4)

/-! ### a block that is known whole -/
/-- block g is just the cells cs of element type t, none of them frozen -/
def Blk (w : World) (g : Nat) (t : TypeId) (cs : Array Value) : Prop := w.heap[g]? = some (.cells cs t (0, 0))

section
variable {w w' : World} {g : Nat} {t : TypeId} {cs : Array Value}
theorem Blk.lt (h : Blk w g t cs) : g < w.heap.size := (Array.getElem?_eq_some_iff.1 h).1
theorem Blk.cell (h : Blk w g t cs) (i : Nat) {v : Value} (hv : cs[i]? = some v) : w.cell? ⟨g, i, none⟩ = some v := (cell_of_row w g i cs t (0, 0) h).trans hv
theorem Blk.frozen (h : Blk w g t cs) (i : Nat) : w.frozen? ⟨g, i, none⟩ = false := by
  unfold Blk at h; simp [World.frozen?, h]
theorem Blk.new (w : World) (t : TypeId) (cs : Array Value) : Blk (w.alloc (.cells cs t)) w.heap.size t cs := heap_alloc_new w _
theorem Blk.at_ (w : World) (t : TypeId) (cs : Array Value) {g : Nat} (hg : g = w.heap.size) : Blk (w.alloc (.cells cs t)) g t cs := by subst hg; exact heap_alloc_new w _
theorem Blk.drew (h : Blk w g t cs) : Blk w.drew g t cs := h
theorem Blk.drewN (h : Blk w g t cs) (n : Nat) : Blk (w.drewN n) g t cs := h
theorem Blk.alloc (h : Blk w g t cs) (o : Obj) : Blk (w.alloc o) g t cs := (Below.heap_alloc w o g h.lt).trans h
theorem Blk.set_ (h : Blk w g t cs) (i : Nat) (u : Value) : Blk (w.setCell ⟨g, i, none⟩ u) g t (cs.setIfInBounds i u) := by
  unfold Blk at h ⊢
  simp [World.setCell, Array.getElem?_modify, h]
theorem Blk.far (h : Blk w g t cs) {p : Addr} (hp : g ≠ p.block) (u : Value) : Blk (w.setCell p u) g t cs := (Below.heap_setCell w p u g hp).trans h
theorem Blk.fresh (h : Blk w g t cs) (hb : Below w.heap.size w w') : Blk w' g t cs := (hb.block g h.lt).trans h
theorem Blk.grown {row : Option Nat} (h : Blk w g t cs) (hb : w.grownBy w' row) (hg : row ≠ some g) : Blk w' g t cs := (hb.block g h.lt (fun e => hg e.symm)).trans h
theorem Blk.cells8 {a0 a1 a2 a3 a4 a5 a6 a7 : Value} (h : Blk w g t #[a0, a1, a2, a3, a4, a5, a6, a7]) :
    w.cell? ⟨g, 0, none⟩ = some a0 ∧ w.cell? ⟨g, 1, none⟩ = some a1 ∧ w.cell? ⟨g, 2, none⟩ = some a2 ∧ w.cell? ⟨g, 3, none⟩ = some a3 ∧ w.cell? ⟨g, 4, none⟩ = some a4 ∧ w.cell? ⟨g, 5, none⟩ = some a5 ∧ w.cell? ⟨g, 6, none⟩ = some a6 ∧ w.cell? ⟨g, 7, none⟩ = some a7 :=
  ⟨h.cell 0 rfl, h.cell 1 rfl, h.cell 2 rfl, h.cell 3 rfl, h.cell 4 rfl, h.cell 5 rfl, h.cell 6 rfl, h.cell 7 rfl⟩
theorem Blk.cells4 {a0 a1 a2 a3 : Value} (h : Blk w g t #[a0, a1, a2, a3]) :
    w.cell? ⟨g, 0, none⟩ = some a0 ∧ w.cell? ⟨g, 1, none⟩ = some a1 ∧ w.cell? ⟨g, 2, none⟩ = some a2 ∧ w.cell? ⟨g, 3, none⟩ = some a3 :=
  ⟨h.cell 0 rfl, h.cell 1 rfl, h.cell 2 rfl, h.cell 3 rfl⟩
theorem At.ok_ {α : Type} [Flat α] {B : Nat} {A : Option Addr} {l : List α} (h : At w B A l) : ∀ x ∈ l, Flat.ok x := by
  intro x hx
  obtain ⟨i, hi⟩ := List.mem_iff_getElem?.1 hx
  obtain ⟨b, o, cs, -, -, -, hr⟩ := h i x hi
  exact hr.2
theorem own_ne_blk {α : Type} [Flat α] {base : Nat} {e : TypeId} {A : Option Addr} {c : Nat} {l : List α} (h : Own w base e A c l) (hg : g < base) : rowOf A ≠ some g := fun he => by have := h.lt g he; omega
end

section
variable {w w' : World} {g : Nat} {t : TypeId} {cs cs' : Array Value}
theorem Blk.setRow (h : Blk w g t cs) : Blk (w.setRow g cs') g t cs' := setRow_heap w g cs cs' t (0, 0) h
theorem Blk.setRow_far (h : Blk w g t cs) {g' : Nat} (hg : g ≠ g') : Blk (w.setRow g' cs') g t cs := (setRow_other w g' g cs' hg).trans h
theorem Own.setRow {α : Type} [Flat α] {base : Nat} {e : TypeId} {A : Option Addr} {c : Nat} {l : List α} (h : Own w base e A c l) {g' : Nat} (hg : rowOf A ≠ some g') : Own (w.setRow g' cs') base e A c l :=
  h.block_ fun k hk => setRow_other w g' k cs' (fun e => hg (by rw [hk, e]))
end

/-- a whole struct loaded from, stored into a block that is known whole -/
theorem wpList_ld {P : Program} {ops : Array Oper} {rest : List Oper} {o : Oper} {a : Act} {w : World} {Q : Exit → Act → World → Prop} (hgd : o.guard = none) (ty : TypeId) (x : Operand) (ho : o.op = .load ty x)
    (g : Nat) (hx : a.eval x = .pointer (some ⟨g, 0, none⟩)) {t : TypeId} {cs : Array Value} {d : TypeDesc} (hg : Blk w g t cs)
    (hu : P.underlying ty = some d) (hd : (match d with | .struct _ | .array _ _ => true | _ => false) = true) (hi : (P.info? ty).map (·.size) = some cs.size)
    (h : wpList P ops Q rest (a.put o.dst (.agg cs)) w) : wpList P ops Q (o :: rest) a w :=
  wpList_load_row hgd ty x ho g hx t cs (0, 0) d hg hu hd hi h
theorem wpList_st {P : Program} {ops : Array Oper} {rest : List Oper} {o : Oper} {a : Act} {w : World} {Q : Exit → Act → World → Prop} (hgd : o.guard = none) (ty : TypeId) (x y : Operand) (ho : o.op = .store ty x y)
    (g : Nat) {cells : Array Value} (hx : a.eval x = .pointer (some ⟨g, 0, none⟩)) (hy : a.eval y = .agg cells)
    {t : TypeId} {old : Array Value} (hg : Blk w g t old) (hi : (P.info? ty).map (·.size) = some cells.size)
    (hold : old.size = cells.size) (h1 : cells.toList.all (·.oneCell') = true)
    (h : wpList P ops Q rest (a.put o.dst undef) (w.setRow g cells)) : wpList P ops Q (o :: rest) a w :=
  wpList_store_row hgd ty x y ho g cells hx hy t old hg hi hold (by rw [← Array.all_toList]; exact h1) h

theorem bel_setRow {B g : Nat} {w0 w : World} (hb : Below B w0 w) (hBg : B ≤ g) (cs : Array Value) : Below B w0 (w.setRow g cs) :=
  hb.trans ⟨rfl, rfl, rfl, by simp, fun k hk => setRow_other w g k cs (by omega)⟩

/-- a struct and a plain value handed back -/
theorem results_cell_tmp {P : Program} {fn : Func} {p q : Tmp} {ty : TypeId} (h : fn.results = #[.cell p ty, .tmp q]) (tmps : Array Value) (w : World) (g : Nat) (t : TypeId) (cs : Array Value) (d : TypeDesc)
    (hp : tmps.getD p undef = .pointer (some ⟨g, 0, none⟩)) (hg : Blk w g t cs)
    (hu : P.underlying ty = some d) (hd : (match d with | .struct _ | .array _ _ => true | _ => false) = true) (hi : (P.info? ty).map (·.size) = some cs.size) :
    (results fn tmps).run P w = .ok (.tuple #[.agg cs, tmps.getD q undef]) w := by
  have hp' : tmps[p]?.getD undef = .pointer (some ⟨g, 0, none⟩) := by simpa using hp
  simp [results, h, hp', asAddr, run_loadVar_row w g t ty cs (0, 0) d hg hu hd hi]

/-- the world at hand behind a name, of which only what is said is known -/
theorem wp_world {P : Program} {c : Code} {Q : Exit → Act → World → Prop} {a : Act} {w0 : World} (p : World → Prop) (h0 : p w0) (h : ∀ w, p w → Code.wp P c Q a w) : Code.wp P c Q a w0 := h w0 h0
theorem wpList_world {P : Program} {ops : Array Oper} {Q : Exit → Act → World → Prop} {l : List Oper} {a : Act} {w0 : World} (p : World → Prop) (h0 : p w0) (h : ∀ w, p w → wpList P ops Q l a w) : wpList P ops Q l a w0 := h w0 h0
theorem calls_world {P : Program} {f : FuncId} {args : Array Value} {R : Ending → World → Prop} {w0 : World} (p : World → Prop) (h0 : p w0) (h : ∀ w, p w → Calls P f args w R) : Calls P f args w0 R := h w0 h0

end Go.Proofs.Ytpkccpegdpodoaa

/-
  slices.Clone and the reference's Copy at plain element types: a list of the call's own that reads as the argument.
-/
namespace Go.Proofs.Ytpkccpegdpodoaa
open Go.RowKit

/-- what a copying call leaves: a slice of its own that holds the list -/
def Copied {α : Type} [Flat α] (E : TypeId) (l : List α) (w : World) (e : Ending) (w' : World) : Prop :=
  ∃ A' c', e = .returned (.slice A' l.length c') ∧ Own w' w.heap.size E A' c' l ∧ Below w.heap.size w w'

theorem own_new0 {α : Type} [Flat α] (w : World) (base : Nat) (E : TypeId) (cs : Array Value) (hcs : cs = #[]) (hb : base ≤ w.heap.size) : Own (α := α) (w.alloc (.cells cs E)) base E (some ⟨w.heap.size, 0, none⟩) 0 ([] : List α) :=
  World.ownsRow_made w cs 0 hb (by simp [maxLen]) (by simp [hcs])

theorem below_app {w w1 w' : World} {A : Option Addr} {B : Nat} (hb : Below B w w1) (hg : w1.grownBy w' (rowOf A)) (hB : B ≤ w1.heap.size) (hA : ∀ g, rowOf A = some g → B ≤ g) : Below B w w' := hb.grown hg hB hA

end Go.Proofs.Ytpkccpegdpodoaa

/- Elements of any type as plain rows of cells: 'Raw n'. A list that a slice reads as, of whatever type, reads as raw rows too; copying keeps the rows. -/
namespace Go.Proofs.Ytpkccpegdpodoaa
open Go.RowKit

structure Raw (n : Nat) where
  cs : List Value
  len : cs.length = n
  one : ∀ u ∈ cs, u.oneCell' = true

instance (n : Nat) : Flat (Raw n) where
  cells r := r.cs
  sz := n
  len r := r.len
  ok _ := True

def Raw.set {n : Nat} (r : Raw n) (j : Nat) (u : Value) (hu : u.oneCell' = true) : Raw n :=
  ⟨r.cs.set j u, by rw [List.length_set]; exact r.len, fun v hv => by
    rcases List.mem_or_eq_of_mem_set hv with h | h
    · exact r.one v h
    · rw [h]; exact hu⟩

theorem raw_one {n : Nat} : ∀ x : Raw n, ∀ u ∈ Flat.cells x, u.oneCell' = true := fun x u hu => x.one u hu

theorem At.raws {α : Type} [Enc α] {n : Nat} (hn : Enc.sz α = n) {w : World} {B : Nat} {A : Option Addr} {xs : List α} (h : At w B A xs)
    (hone : ∀ cs x, Enc.rd w B cs (x : α) → ∀ u ∈ cs, u.oneCell' = true) :
    ∃ rs : List (Raw n), rs.length = xs.length ∧ At w B A rs ∧ ∀ (i : Nat) (r : Raw n) (x : α), rs[i]? = some r → xs[i]? = some x → Enc.rd w B r.cs x := by
  subst hn
  have H : ∀ i : Fin xs.length, ∃ r : Raw (Enc.sz α), (∃ b o, A = some ⟨b, o, none⟩ ∧ b < B ∧ CellsAt w b (o + i.val * Enc.sz α) r.cs) ∧ Enc.rd w B r.cs xs[i.val] := by
    intro i
    obtain ⟨b, o, cs, hA, hb, hc, hr⟩ := h i.val xs[i.val] (List.getElem?_eq_getElem i.isLt)
    exact ⟨⟨cs, Enc.len hr, hone cs _ hr⟩, ⟨b, o, hA, hb, hc⟩, hr⟩
  obtain ⟨f, hf⟩ := Classical.axiomOfChoice H
  have get : ∀ (i : Nat) (r : Raw (Enc.sz α)), (List.ofFn f)[i]? = some r → ∃ hi : i < xs.length, r = f ⟨i, hi⟩ := by
    intro i r hr
    rw [List.getElem?_ofFn] at hr
    split at hr
    · rename_i hi
      injection hr with hr
      exact ⟨hi, hr.symm⟩
    · cases hr
  refine ⟨List.ofFn f, List.length_ofFn, fun i r hr => ?_, fun i r x hr hx => ?_⟩
  · obtain ⟨hi, rfl⟩ := get i r hr
    obtain ⟨⟨b, o, hA, hb, hc⟩, -⟩ := hf ⟨i, hi⟩
    exact ⟨b, o, (f ⟨i, hi⟩).cs, hA, hb, hc, rfl, trivial⟩
  · obtain ⟨hi, rfl⟩ := get i r hr
    have := (hf ⟨i, hi⟩).2
    have hx' : xs[i] = x := by rw [List.getElem?_eq_getElem hi] at hx; injection hx
    rw [← hx']; exact this

/-- one cell of an element stored -/
theorem Own.set_raw {n : Nat} {w : World} {base : Nat} {e : TypeId} {c : Nat} {l : List (Raw n)} {g i j : Nat} {x : Raw n} {u : Value} (h : Own w base e (some ⟨g, 0, none⟩) c l) (hx : l[i]? = some x) (hj : j < n) (hu : u.oneCell' = true) :
    Own (w.setCell ⟨g, i * n + j, none⟩ u) base e (some ⟨g, 0, none⟩) c (l.set i (x.set j u hu)) := h.set_ rfl hx hj rfl

theorem Own.raw_cell {n : Nat} {w : World} {base : Nat} {e : TypeId} {c : Nat} {l : List (Raw n)} {g : Nat} (h : Own w base e (some ⟨g, 0, none⟩) c l) {i j : Nat} {x : Raw n} {u : Value} (hx : l[i]? = some x) (hu : x.cs[j]? = some u) : w.cell? ⟨g, i * n + j, none⟩ = some u := by
  have hj : j < n := by have := (List.getElem?_eq_some_iff.1 hu).1; rw [x.len] at this; exact this
  have := h.cells_ (g := g) (o := 0) rfl (i * n + j) u ((flat_get l i j x hx hj).trans hu)
  rw [Nat.zero_add] at this; exact this
theorem Raw.has {n : Nat} (x : Raw n) (j : Nat) (hj : j < n) : ∃ u, x.cs[j]? = some u := ⟨_, List.getElem?_eq_getElem (by rw [x.len]; exact hj)⟩
theorem At.raw_cell {n : Nat} {w : World} {B : Nat} {b o : Nat} {l : List (Raw n)} (h : At w B (some ⟨b, o, none⟩) l) {i j : Nat} {x : Raw n} {u : Value} (hx : l[i]? = some x) (hu : x.cs[j]? = some u) : w.cell? ⟨b, o + i * n + j, none⟩ = some u := by
  obtain ⟨b', o', cs, hA, hb, hc, hr, -⟩ := h i x hx
  injection hA with hA; injection hA with h1 h2; subst h1 h2 hr
  exact hc j u hu

/-- two cells of an element stored: some raw row is owned -/
theorem Own.set_raw2 {n : Nat} {w : World} {base : Nat} {e : TypeId} {c : Nat} {l : List (Raw n)} {g i j k : Nat} {x : Raw n} {u v : Value} (h : Own w base e (some ⟨g, 0, none⟩) c l) (hx : l[i]? = some x) (hj : j < n) (hk : k < n) (hu : u.oneCell' = true) (hv : v.oneCell' = true) :
    Own ((w.setCell ⟨g, i * n + j, none⟩ u).setCell ⟨g, i * n + k, none⟩ v) base e (some ⟨g, 0, none⟩) c (l.set i ((x.set j u hu).set k v hv)) := by
  have hi : i < l.length := (List.getElem?_eq_some_iff.1 hx).1
  have h1 := h.set_raw hx hj hu
  have h2 := h1.set_raw (i := i) (x := x.set j u hu) (by rw [List.getElem?_set_self hi]) hk hv
  rw [List.set_set] at h2
  exact h2

theorem raw_ext {n : Nat} {a b : Raw n} (h : a.cs = b.cs) : a = b := by cases a; cases b; cases h; rfl
/-- a struct of four cells stored into an owned row -/
theorem Own.set_raw4 {w : World} {base : Nat} {e : TypeId} {c : Nat} {l : List (Raw 4)} {g i : Nat} {x : Raw 4} {u0 u1 u2 u3 : Value} (h : Own w base e (some ⟨g, 0, none⟩) c l) (hx : l[i]? = some x) (r : Raw 4) (hr : r.cs = [u0, u1, u2, u3]) :
    Own ((((w.setCell ⟨g, i * 4, none⟩ u0).setCell ⟨g, i * 4 + 1, none⟩ u1).setCell ⟨g, i * 4 + 2, none⟩ u2).setCell ⟨g, i * 4 + 3, none⟩ u3) base e (some ⟨g, 0, none⟩) c (l.set i r) := by
  have hi : i < l.length := (List.getElem?_eq_some_iff.1 hx).1
  have o0 := r.one u0 (by rw [hr]; simp)
  have o1 := r.one u1 (by rw [hr]; simp)
  have o2 := r.one u2 (by rw [hr]; simp)
  have o3 := r.one u3 (by rw [hr]; simp)
  have h0 := h.set_raw (j := 0) hx (by decide) o0
  have h1 := h0.set_raw (i := i) (j := 1) (x := x.set 0 u0 o0) (by rw [List.getElem?_set_self hi]) (by decide) o1
  rw [List.set_set] at h1
  have h2 := h1.set_raw (i := i) (j := 2) (x := (x.set 0 u0 o0).set 1 u1 o1) (by rw [List.getElem?_set_self hi]) (by decide) o2
  rw [List.set_set] at h2
  have h3 := h2.set_raw (i := i) (j := 3) (x := ((x.set 0 u0 o0).set 1 u1 o1).set 2 u2 o2) (by rw [List.getElem?_set_self hi]) (by decide) o3
  rw [List.set_set] at h3
  have hcs : (((x.set 0 u0 o0).set 1 u1 o1).set 2 u2 o2).set 3 u3 o3 = r := by
    apply raw_ext
    obtain ⟨cs, hlen, hone⟩ := x
    rcases cs with _ | ⟨a, _ | ⟨b, _ | ⟨c', _ | ⟨d, _ | ⟨f, cs⟩⟩⟩⟩⟩ <;> simp at hlen
    rw [hr]; rfl
  rw [hcs] at h3
  exact h3

/-- lists of flat data over a store into another block -/
theorem At.far_ {α : Type} [Flat α] {w : World} {B : Nat} {A : Option Addr} {xs : List α} (h : At w B A xs) {p : Addr} (hp : rowOf A ≠ some p.block) (u : Value) : At (w.setCell p u) B A xs := by
  intro i x hx
  obtain ⟨b, o, cs, rfl, hb, hc, hr⟩ := h i x hx
  exact ⟨b, o, cs, rfl, hb, hc.keep fun q hq => World.cell?_setCell_other w p q u (fun e => hp (by subst e; simp [rowOf, hq])), hr⟩
theorem At.grown_ {α : Type} [Flat α] {w w' : World} {B : Nat} {A : Option Addr} {xs : List α} (h : At w B A xs) (hB : B ≤ w.heap.size) {row : Option Nat} (hg : w.grownBy w' row) (hr : ∀ g, rowOf A = some g → row ≠ some g) : At w' B A xs := by
  intro i x hx
  obtain ⟨b, o, cs, rfl, hb, hc, hr'⟩ := h i x hx
  refine ⟨b, o, cs, rfl, hb, hc.keep fun q hq => ?_, hr'⟩
  unfold World.cell?
  rw [hq, hg.block b (by omega) (fun e => hr b rfl e.symm)]

end Go.Proofs.Ytpkccpegdpodoaa

/- Lists of bools, of ints, of lists: cells read and stored; rows of different types are apart. -/
namespace Go.Proofs.Ytpkccpegdpodoaa
open Go.RowKit

instance : Flat Bool where
  cells b := [.bool b]
  sz := 1
  len _ := rfl
  ok _ := True
theorem bool_one : ∀ x : Bool, ∀ u ∈ Flat.cells x, u.oneCell' = true := by
  intro x u hu; simp [Flat.cells] at hu; subst hu; rfl

theorem At.bool_ {w : World} {B : Nat} {A : Option Addr} {l : List Bool} {k : Nat} (h : At w B A l) (hk : k < l.length) :
    ∃ b o x, A = some ⟨b, o, none⟩ ∧ b < B ∧ l[k]? = some x ∧ w.cell? ⟨b, o + k, none⟩ = some (.bool x) := by
  obtain ⟨x, hx⟩ : ∃ x, l[k]? = some x := ⟨l[k], List.getElem?_eq_getElem hk⟩
  obtain ⟨b, o, cs, rfl, hb, hc, rfl, hok⟩ := h k x hx
  have h0 := hc 0 _ rfl
  simp only [Flat.sz, Enc.sz, Nat.mul_one, Nat.add_zero] at h0
  exact ⟨b, o, x, rfl, hb, hx, h0⟩
theorem At.slice_ {α : Type} [Enc α] {w : World} {B : Nat} {A : Option Addr} {l : List (List α)} {k : Nat} (h : At w B A l) (hk : k < l.length) :
    ∃ b o x A' c', A = some ⟨b, o, none⟩ ∧ b < B ∧ l[k]? = some x ∧ w.cell? ⟨b, o + k, none⟩ = some (.slice A' x.length c') ∧ At w B A' x ∧ x.length ≤ c' ∧ c' ≤ maxLen := by
  obtain ⟨x, hx⟩ : ∃ x, l[k]? = some x := ⟨l[k], List.getElem?_eq_getElem hk⟩
  obtain ⟨b, o, cs, rfl, hb, hc, A', c', rfl, h1, h2, -, h3⟩ := h k x hx
  have h0 := hc 0 _ rfl
  rw [show o + k * Enc.sz (List α) + 0 = o + k from by show o + k * 1 + 0 = o + k; omega] at h0
  exact ⟨b, o, x, A', c', rfl, hb, hx, h0, h3, h1, h2⟩
theorem At.nil_len {α : Type} [Enc α] {w : World} {B : Nat} {l : List α} (h : At w B none l) : l = [] := by
  rcases l with _ | ⟨x, l⟩
  · rfl
  · obtain ⟨b, o, cs, hA, -⟩ := h 0 x rfl
    cases hA

section
variable {α β : Type} [Flat α] [Flat β] {w : World} {base base' : Nat} {e e' : TypeId} {A A' : Option Addr} {c c' : Nat} {l : List α} {l' : List β}
theorem own_ne_ty (h : Own w base e A c l) {g : Nat} {t : TypeId} {cs : Array Value} (hg : Blk w g t cs) (hne : e ≠ t) : rowOf A ≠ some g := by
  intro hA
  rcases h.2 with ⟨h1, _⟩ | ⟨g', cap, cur, hv, _, hh, _⟩
  · injection h1 with h3; rw [h3] at hA; cases hA
  · injection hv with h3; rw [h3] at hA; injection hA with hA; simp only at hA; subst hA
    unfold Blk at hg
    rw [hh] at hg
    injection hg with hg; injection hg with _ hg _
    exact hne hg
theorem own_own_ty (h : Own w base e A c l) (h' : Own w base' e' A' c' l') (hne : e ≠ e') : ∀ g, rowOf A = some g → rowOf A' ≠ some g := by
  intro g hA hA'
  rcases h'.2 with ⟨h1, _⟩ | ⟨g', cap, cur, hv, _, hh, _⟩
  · injection h1 with h3; rw [h3] at hA'; cases hA'
  · injection hv with h3; rw [h3] at hA'; injection hA' with hA'; simp only at hA'; subst hA'
    rcases h.2 with ⟨h1, _⟩ | ⟨g2, cap2, cur2, hv2, _, hh2, _⟩
    · injection h1 with h3; rw [h3] at hA; cases hA
    · injection hv2 with h3; rw [h3] at hA; injection hA with hA; simp only at hA; subst hA
      rw [hh] at hh2
      injection hh2 with hh2; injection hh2 with _ hh2 _
      exact hne hh2.symm
theorem flat_take (l : List α) (k : Nat) (hk : k ≤ l.length) : (flat l).take (k * Flat.sz α) = flat (l.take k) := by
  have h := flat_append (l.take k) (l.drop k)
  rw [List.take_append_drop] at h
  rw [h, List.take_left' (by rw [flat_length, List.length_take, Nat.min_eq_left hk])]
theorem Own.take_ (h : Own w base e A c l) (k : Nat) (hk : k ≤ l.length) : Own w base e A c (l.take k) := by
  have hl : (l.take k).length = k := by rw [List.length_take]; omega
  have hf := flat_take l k hk
  refine ⟨flat_length _, ?_⟩
  rw [hl]
  rcases h.2 with ⟨h1, h2⟩ | ⟨g, cap, cur, hv, hg, hh, h1, h2, h3, h4⟩
  · injection h1 with h3 h4 h5
    have : k = 0 := by omega
    subst this
    exact .inl ⟨by rw [h3, h5], rfl⟩
  · injection hv with h5 _ h6
    subst h6
    refine .inr ⟨g, c, cur, by rw [h5], hg, hh, by omega, h2, h3, ?_⟩
    rw [← hf, ← h4, List.take_take, Nat.min_eq_left (Nat.mul_le_mul_right _ hk)]
theorem Own.ok_take {k : Nat} (h : ∀ x ∈ l, Flat.ok x) : ∀ x ∈ l.take k, Flat.ok x := fun x hx => h x (List.mem_of_mem_take hx)
end

theorem Own.set_bool {w : World} {base : Nat} {e : TypeId} {c : Nat} {l : List Bool} {g i : Nat} (b : Bool) (h : Own w base e (some ⟨g, 0, none⟩) c l) (hi : i < l.length) : Own (w.setCell ⟨g, i, none⟩ (.bool b)) base e (some ⟨g, 0, none⟩) c (l.set i b) := by
  have := h.set_ (i := i) (j := 0) (x := l[i]) (y := b) (u := .bool b) rfl (List.getElem?_eq_getElem hi) (by decide) rfl
  simpa [Flat.sz] using this
theorem Own.set_int {w : World} {base : Nat} {e : TypeId} {c : Nat} {l : List Int} {g i : Nat} (b : Int) (h : Own w base e (some ⟨g, 0, none⟩) c l) (hi : i < l.length) : Own (w.setCell ⟨g, i, none⟩ (.int .i64 b)) base e (some ⟨g, 0, none⟩) c (l.set i b) := by
  have := h.set_ (i := i) (j := 0) (x := l[i]) (y := b) (u := .int .i64 b) rfl (List.getElem?_eq_getElem hi) (by decide) rfl
  simpa [Flat.sz] using this
theorem Own.cell_bool {w : World} {base : Nat} {e : TypeId} {c : Nat} {l : List Bool} {g i : Nat} {b : Bool} (h : Own w base e (some ⟨g, 0, none⟩) c l) (hi : l[i]? = some b) : w.cell? ⟨g, i, none⟩ = some (.bool b) := by
  have := h.cells_ (g := g) (o := 0) rfl (i * 1 + 0) (.bool b) (flat_get l i 0 b hi (by decide))
  simpa using this
theorem Own.cell_int {w : World} {base : Nat} {e : TypeId} {c : Nat} {l : List Int} {g i : Nat} {b : Int} (h : Own w base e (some ⟨g, 0, none⟩) c l) (hi : l[i]? = some b) : w.cell? ⟨g, i, none⟩ = some (.int .i64 b) := by
  have := h.cells_ (g := g) (o := 0) rfl (i * 1 + 0) (.int .i64 b) (flat_get l i 0 b hi (by decide))
  simpa using this

end Go.Proofs.Ytpkccpegdpodoaa

/- Rows of the call's own cut short in place: clear of a tail, append within the room. No program is named here. -/
namespace Go.Proofs.Ytpkccpegdpodoaa
open Go.RowKit

theorem grownBy_setCell (w : World) (g o : Nat) (u : Value) : w.grownBy (w.setCell ⟨g, o, none⟩ u) (some g) :=
  ⟨rfl, rfl, rfl, by simp [World.setCell], fun k _ hk => Below.heap_setCell w ⟨g, o, none⟩ u k (fun e => hk (by rw [e]))⟩
theorem grownBy_setCells (g : Nat) : ∀ (vs : List Value) (o : Nat) (w : World), w.grownBy (w.setCells g o vs) (some g)
  | [], _, w => World.grownBy.refl w _
  | v :: r, o, w => (grownBy_setCell w g o v).trans (grownBy_setCells g r (o + 1) _)
theorem grownBy_drew (w : World) (row : Option Nat) : w.grownBy w.drew row := ⟨rfl, rfl, rfl, Nat.le_refl _, fun _ _ _ => rfl⟩
theorem grownBy_drewN {w w' : World} {row : Option Nat} (h : w.grownBy w' row) (n : Nat) : w.grownBy (w'.drewN n) row := ⟨h.os, h.tape, h.output, h.size, h.block⟩
theorem grownBy_undrew {w w' : World} {row : Option Nat} (h : w.drew.grownBy w' row) : w.grownBy w' row := ⟨h.os, h.tape, h.output, h.size, h.block⟩
theorem grownBy_below {w w' : World} (row : Option Nat) (h : Below w.heap.size w w') : w.grownBy w' row := ⟨h.os, h.tape, h.output, h.size, fun k hk _ => h.block k hk⟩
theorem below_grown {w w' : World} {B g : Nat} (h : w.grownBy w' (some g)) (hB : B ≤ g) (hBw : B ≤ w.heap.size) : Below B w w' := (Below.refl _ _).grown h hBw (fun k hk => by injection hk with hk; omega)

section
variable {α : Type} [Flat α] {w : World} {base : Nat} {e : TypeId} {c g : Nat} {l : List α}
theorem Own.setCell_tail (h : Own w base e (some ⟨g, 0, none⟩) c l) {j : Nat} (hj : l.length * Flat.sz α ≤ j) (u : Value) : Own (w.setCell ⟨g, j, none⟩ u) base e (some ⟨g, 0, none⟩) c l := by
  refine ⟨h.1, ?_⟩
  rcases h.2 with ⟨h1, _⟩ | ⟨g', cap, cur, hv, hg, hh, h1, h2, h3, h4⟩
  · injection h1 with h1; cases h1
  · injection hv with h5 _ h6; injection h5 with h5; injection h5 with h5; subst h5 h6
    refine .inr ⟨g, c, cur.setIfInBounds j u, rfl, hg, ?_, h1, h2, by rw [Array.size_setIfInBounds]; exact h3, ?_⟩
    · simp [World.setCell, Array.getElem?_modify, hh]
    · rw [Array.toList_setIfInBounds, List.take_set_of_le hj, h4]
theorem Own.setCells_tail : ∀ (vs : List Value) (j : Nat) (w : World), Own w base e (some ⟨g, 0, none⟩) c l → l.length * Flat.sz α ≤ j → Own (w.setCells g j vs) base e (some ⟨g, 0, none⟩) c l
  | [], _, _, h, _ => h
  | v :: r, j, w, h, hj => Own.setCells_tail r (j + 1) _ (h.setCell_tail hj v) (by omega)
theorem Own.some_cell (h : Own w base e (some ⟨g, 0, none⟩) c l) {j : Nat} (hj : j < c * Flat.sz α) : (w.cell? ⟨g, j, none⟩).isSome = true := by
  rcases h.2 with ⟨h1, _⟩ | ⟨g', cap, cur, hv, hg, hh, h1, h2, h3, h4⟩
  · injection h1 with h1; cases h1
  · injection hv with h5 _ h6; injection h5 with h5; injection h5 with h5; subst h5 h6
    rw [cell_of_row w g j cur e (0, 0) hh, Array.getElem?_eq_getElem (by omega)]
    rfl

theorem run_clear_own {P : Program} (h : Own w base e (some ⟨g, 0, none⟩) c l) (k : Nat) (hk : k ≤ l.length) (t ty : TypeId) (ht : P.underlying t = some (.slice e)) (z : Value) (hv : ∀ w, (zeroValue e).run P w = .ok z w) (hzs : z.cells.size = Flat.sz α)
    (hz1 : z.cells.toList.all (·.oneCell') = true) (X : Option Addr) (n c' : Nat) (hroom : k + n ≤ c) (hX : 0 < n → X = some ⟨g, k * Flat.sz α, none⟩) :
    ∃ w', (Builtin.clear_ #[t] ty #[.slice X n c']).run P w = .ok (.tuple #[]) w' ∧ Own w' base e (some ⟨g, 0, none⟩) c (l.take k) ∧ w.grownBy w' (some g) := by
  rcases Nat.lt_or_ge 0 n with hlt | hge
  · rw [hX hlt]
    obtain ⟨m, hm⟩ : ∃ m, n = m + 1 := ⟨n - 1, by omega⟩
    have hlen : (Builtin.zeroCells z.cells n).toList.length = n * Flat.sz α := by simp [Builtin.zeroCells, hzs]
    have hle : k * Flat.sz α + n * Flat.sz α ≤ c * Flat.sz α := by rw [← Nat.add_mul]; exact Nat.mul_le_mul_right _ (by omega)
    have hst := run_storeCells_cells (P := P) g (k * Flat.sz α) (Builtin.zeroCells z.cells n).toList 0 w
      (fun j hj => by rw [hlen] at hj; exact h.some_cell (by omega)) (fun j _ => h.frozen rfl _) (fun v hv' => by
        simp only [Builtin.zeroCells, Array.toList_map, List.mem_map] at hv'
        obtain ⟨i, hi, rfl⟩ := hv'
        have hpos : 0 < z.cells.size := by
          rcases Nat.eq_zero_or_pos z.cells.size with h0 | h0
          · simp [h0] at hi
          · exact h0
        rw [getElem!_pos z.cells _ (Nat.mod_lt _ hpos)]
        exact List.all_eq_true.1 hz1 _ (by simp))
    simp only [Nat.add_zero] at hst
    refine ⟨w.setCells g (k * Flat.sz α) (Builtin.zeroCells z.cells n).toList, ?_, Own.setCells_tail _ (k * Flat.sz α) w (h.take_ k hk) (by rw [List.length_take, Nat.min_eq_left hk]; exact Nat.le_refl _), grownBy_setCells g _ _ _⟩
    · subst hm
      simp [Builtin.clear_, run_underlying ht, hv, hst]
  · have h0 : n = 0 := by omega
    subst h0
    refine ⟨w, ?_, h.take_ k hk, World.grownBy.refl w _⟩
    cases X <;> simp [Builtin.clear_, run_underlying ht]

theorem wpList_clear_own {P : Program} {ops : Array Oper} {rest : List Oper} {o : Oper} {a : Act} {Q : Exit → Act → World → Prop} (hgd : o.guard = none) (x : Operand) (t : TypeId)
    (ho : o.op = .call { callee := .builtin .clear, args := #[x], argTypes := #[t] }) (ht : P.underlying t = some (.slice e)) (z : Value) (hv : ∀ w, (zeroValue e).run P w = .ok z w) (hzs : z.cells.size = Flat.sz α)
    (hz1 : z.cells.toList.all (·.oneCell') = true) (h : Own w base e (some ⟨g, 0, none⟩) c l) (k : Nat) (hk : k ≤ l.length) {X : Option Addr} {n c' : Nat} (hx : a.eval x = .slice X n c') (hroom : k + n ≤ c) (hX : 0 < n → X = some ⟨g, k * Flat.sz α, none⟩)
    (hK : ∀ w', Own w' base e (some ⟨g, 0, none⟩) c (l.take k) → w.grownBy w' (some g) → wpList P ops Q rest (a.put o.dst (.tuple #[])) w') : wpList P ops Q (o :: rest) a w := by
  refine wpList_plain hgd fun K hK' => ?_
  obtain ⟨w', hrun, h2, h3⟩ := run_clear_own (P := P) h k hk t o.type ht z hv hzs hz1 X n c' hroom hX
  unfold Oper.wp execOp
  simp only [ho, resolve, invoke, builtin, Sem.run_bind, Sem.run_pure, Result.andThen_ok, List.map_toArray, List.map_cons, List.map_nil, hx, hrun]
  exact hK' _ _ (hK w' h2 h3)

theorem step_app_fits {P : Program} {ops : Array Oper} {o : Oper} {a : Act} {K : Act → World → Prop} {Q : Exit → Act → World → Prop} {E : Prop} (hgd : o.guard = none) (s x : Operand) (t : TypeId)
    (ho : o.op = .call { callee := .builtin .append, args := #[s, x], argTypes := #[t, t] }) (i : TypeInfo) (ht : P.underlying t = some (.slice e)) (hi : P.info? e = some i) (hsize : i.size = Flat.sz α) (hone : ∀ x : α, ∀ u ∈ Flat.cells x, u.oneCell' = true)
    {n : Nat} (hs : a.eval s = .slice (some ⟨g, 0, none⟩) n c) (hn : l.length = n) (hown : Own w base e (some ⟨g, 0, none⟩) c l) {ad : Addr} {m d : Nat} {r : List α} (hx : a.eval x = .slice (some ad) m d) (hm : r.length = m)
    (hc : ∀ j u, (flat r)[j]? = some u → w.cell? (ad.add j) = some u) {nm : Nat} (hnm : n + m = nm) (hroom : nm ≤ c)
    (h : ∀ w', Own w' base e (some ⟨g, 0, none⟩) c (l ++ r) → w.grownBy w' (some g) → K (a.put o.dst (.slice (some ⟨g, 0, none⟩) nm c)) w') :
    if Region.wanted o (yielded ops a.tmps) = true then Oper.wp P o a w K Q else E := by
  have hw : Region.wanted o (yielded ops a.tmps) = true := by simp [Region.wanted, hgd]
  rw [if_pos hw]
  subst hn hm hnm
  obtain ⟨w', hrun, h2, h3⟩ := run_append_fits (P := P) w base t o.type e i (Flat.sz α) ht hi hsize g l.length c (flat l) hown ad r.length d (flat r) (flat_length r) hc (fun u hu => by
    unfold flat at hu
    obtain ⟨y, -, hy⟩ := List.mem_flatMap.1 hu
    exact hone y u hy) hroom
  unfold Oper.wp execOp
  simp only [ho, resolve, invoke, builtin, Sem.run_bind, Sem.run_pure, Result.andThen_ok, List.map_toArray, List.map_cons, List.map_nil, hs, hx, hrun]
  refine h w' ?_ h3
  unfold Own
  rw [List.length_append, flat_append]
  exact h2
end

/-- a predicate that lays only blocks of its own, asked while one row is written -/
def PredQ (P : Program) (g : Nat) (lb : Array Value) {α : Type} [Flat α] (v : α → Value) (p : α → Bool) (l : List α) (row : Option Nat) (w : World) : Prop :=
  ∀ (W : World) (x : α), x ∈ l → Flat.ok x → w.grownBy W row → Calls P g (#[v x] ++ lb) W fun e W' => e = .returned (.bool (p x)) ∧ Below W.heap.size W W'

end Go.Proofs.Ytpkccpegdpodoaa

/- append as a step of a region that draws; a list cut at its head. No program is named here. -/
namespace Go.Proofs.Ytpkccpegdpodoaa
open Go.RowKit

theorem At.drop_ {α : Type} [Enc α] {w : World} {B b o : Nat} {l : List α} (h : At w B (some ⟨b, o, none⟩) l) (k : Nat) : At w B (some ⟨b, o + k * Enc.sz α, none⟩) (l.drop k) := by
  intro i x hx
  rw [List.getElem?_drop] at hx
  obtain ⟨b', o', cs, hA, hb, hc, hr⟩ := h (k + i) x hx
  injection hA with hA; injection hA with h1 h2; subst h1 h2
  refine ⟨b, _, cs, rfl, hb, ?_, hr⟩
  rw [Nat.add_assoc, ← Nat.add_mul]; exact hc
theorem At.cut_ {α : Type} [Enc α] {w : World} {B b o c k : Nat} {l : List α} {A : Option Addr} (h : At w B (some ⟨b, o, none⟩) l) (hl : l.length ≤ c) (hA : (if c = k then some (⟨b, o, none⟩ : Addr) else some ⟨b, o + k * Enc.sz α, none⟩) = A) : At w B A (l.drop k) := by
  subst hA
  split
  · have : l.drop k = [] := List.drop_eq_nil_of_le (by omega)
    rw [this]; exact At.nil_
  · exact h.drop_ k

theorem step_app {α : Type} [Flat α] {P : Program} {w : World} {ops : Array Oper} {o : Oper} {a : Act} {K : Act → World → Prop} {Q : Exit → Act → World → Prop} {E : Prop} (hgd : o.guard = none) (s x : Operand) (t : TypeId)
    (ho : o.op = .call { callee := .builtin .append, args := #[s, x], argTypes := #[t, t] })
    (base : Nat) (e : TypeId) (i : TypeInfo) (z : Value) (bytes : Nat) (ht : P.underlying t = some (.slice e)) (hi : P.info? e = some i) (hz : i.zero = some z)
    (hsize : i.size = Flat.sz α) (hby : i.bytes = bytes) (hzs : z.cells.size = Flat.sz α) (hsz : 0 < Flat.sz α) (hone : ∀ x : α, ∀ u ∈ Flat.cells x, u.oneCell' = true)
    {A : Option Addr} {n c : Nat} {l : List α} (hs : a.eval s = .slice A n c) (hn : l.length = n) (hown : Own w base e A c l) {B : Nat} {X : Option Addr} {m d : Nat} {r : List α} (hx : a.eval x = .slice X m d) (hr : At w B X r) (hm : r.length = m) {nm : Nat} (hnm : n + m = nm)
    (hbytes : nm * bytes ≤ 140737488355328) (h63 : nm ≤ maxLen) (hbase : base ≤ w.heap.size)
    (h : ∀ A' c' w', Own w' base e A' c' (l ++ r) → w.grownBy w' (rowOf A) → (rowOf A' = rowOf A ∨ rowOf A' = some w.heap.size) → K (a.put o.dst (.slice A' nm c')) w') :
    if Region.wanted o (yielded ops a.tmps) = true then Oper.wp P o a w K Q else E := by
  have hw : Region.wanted o (yielded ops a.tmps) = true := by simp [Region.wanted, hgd]
  rw [if_pos hw]
  subst hn hnm
  obtain ⟨A', c', w', hrun, h2, h3, h4⟩ := run_app (α := α) (P := P) w base t o.type e i z bytes ht hi hz hsize hby hzs hsz hone hown hr hm hbytes h63 hbase
  unfold Oper.wp execOp
  simp only [ho, resolve, invoke, builtin, Sem.run_bind, Sem.run_pure, Result.andThen_ok, List.map_toArray, List.map_cons, List.map_nil, hs, hx]
  rw [hrun]
  exact h A' c' w' h2 h3 h4

end Go.Proofs.Ytpkccpegdpodoaa

/- Graphs, the plain law: what is wrong with one; what is reached from some things; numbers of those that are so. No program is named here. -/
namespace Go.Proofs.Ytpkccpegdpodoaa

/-- is a number that of one of many? -/
def inN (many : Nat) (n : Int) : Bool := decide (0 ≤ n) && decide (n < (many : Int))
theorem inN_iff {many : Nat} {n : Int} : inN many n = true ↔ 0 ≤ n ∧ n < (many : Int) := by simp [inN]
def grErr (has : List (List Int)) (roots : List Int) : Int :=
  if 100 < has.length ∨ 100 < roots.length then 2
  else if has.any (fun l => decide (10 < l.length)) = true then 2
  else if (roots :: has).all (fun l => l.all (inN has.length)) = true then 0 else 3
def prErr (has : List (List Int)) (roots : List Int) (pairs : List (Int × Int)) : Int :=
  if grErr has roots ≠ 0 then grErr has roots
  else if 50 < pairs.length then 2
  else if pairs.all (fun p => inN has.length p.1 && inN has.length p.2) = true then 0 else 3

/-- all numbers of a graph are those of its things -/
def Right (has : List (List Int)) : Prop := ∀ l ∈ has, ∀ x ∈ l, ∃ k : Nat, x = (k : Int) ∧ k < has.length
def RightL (many : Nat) (l : List Int) : Prop := ∀ x ∈ l, ∃ k : Nat, x = (k : Int) ∧ k < many
def RightP (many : Nat) (l : List (Int × Int)) : Prop := ∀ p ∈ l, ∃ k v : Nat, p = ((k : Int), (v : Int)) ∧ k < many ∧ v < many
theorem rightL_of {many : Nat} {l : List Int} (h : l.all (inN many) = true) : RightL many l := by
  intro x hx
  have := inN_iff.1 (List.all_eq_true.1 h x hx)
  exact ⟨x.toNat, by omega, by omega⟩
theorem grErr_ok {has : List (List Int)} {roots : List Int} (h : grErr has roots = 0) : has.length ≤ 100 ∧ roots.length ≤ 100 ∧ (∀ l ∈ has, l.length ≤ 10) ∧ Right has ∧ RightL has.length roots := by
  unfold grErr at h
  split at h
  · cases h
  · rename_i h1
    split at h
    · cases h
    · rename_i h2
      split at h
      · rename_i h3
        rw [List.all_cons, Bool.and_eq_true] at h3
        refine ⟨by omega, by omega, fun l hl => ?_, fun l hl => rightL_of (List.all_eq_true.1 h3.2 l hl), rightL_of h3.1⟩
        rw [Bool.not_eq_true, List.any_eq_false] at h2
        have := h2 l hl
        simpa using this
      · cases h
theorem prErr_ok {has : List (List Int)} {roots : List Int} {pairs : List (Int × Int)} (h : prErr has roots pairs = 0) : grErr has roots = 0 ∧ pairs.length ≤ 50 ∧ RightP has.length pairs := by
  unfold prErr at h
  split at h
  · rename_i h1; exact absurd h h1
  · rename_i h1
    split at h
    · cases h
    · split at h
      · rename_i h3
        refine ⟨by omega, by omega, fun p hp => ?_⟩
        have := List.all_eq_true.1 h3 p hp
        rw [Bool.and_eq_true] at this
        have a := inN_iff.1 this.1
        have b := inN_iff.1 this.2
        exact ⟨p.1.toNat, p.2.toNat, by rw [Int.toNat_of_nonneg a.1, Int.toNat_of_nonneg b.1], by omega, by omega⟩
      · cases h

/-- what is reached from some things, over what things have and over pairs -/
inductive RT (has : List (List Int)) (src : List Int) (pairs : List (Int × Int)) : Nat → Prop
  | root {n : Nat} : (n : Int) ∈ src → RT has src pairs n
  | edge {n k : Nat} {l : List Int} : RT has src pairs n → has[n]? = some l → (k : Int) ∈ l → RT has src pairs k
  | pair {k v : Nat} : RT has src pairs k → ((k : Int), (v : Int)) ∈ pairs → RT has src pairs v

open Classical in
noncomputable def fromL (has : List (List Int)) (src : List Int) (pairs : List (Int × Int)) : List Bool := (List.range has.length).map fun n => decide (RT has src pairs n)
theorem fromL_length (has : List (List Int)) (src : List Int) (pairs : List (Int × Int)) : (fromL has src pairs).length = has.length := by simp [fromL]
theorem fromL_get (has : List (List Int)) (src : List Int) (pairs : List (Int × Int)) (n : Nat) : (fromL has src pairs)[n]? = some true ↔ n < has.length ∧ RT has src pairs n := by
  unfold fromL
  rw [List.getElem?_map]
  by_cases h : n < has.length
  · rw [List.getElem?_range h]; simp [h]
  · rw [List.getElem?_eq_none (by simp; omega)]; simp [h]

theorem bools_ext {a b : List Bool} (hl : a.length = b.length) (h : ∀ n : Nat, a[n]? = some true ↔ b[n]? = some true) : a = b := by
  apply List.ext_getElem? 
  intro n
  by_cases hn : n < a.length
  · have hn' : n < b.length := by omega
    have := h n
    rw [List.getElem?_eq_getElem hn, List.getElem?_eq_getElem hn'] at this ⊢
    cases h1 : a[n] <;> cases h2 : b[n] <;> simp_all
  · rw [List.getElem?_eq_none (by omega), List.getElem?_eq_none (by omega)]

theorem fromL_eq {has : List (List Int)} {src : List Int} {pairs : List (Int × Int)} {seen : List Bool} (hlen : seen.length = has.length) (hsound : ∀ n, seen[n]? = some true → RT has src pairs n)
    (hsrc : ∀ n : Nat, (n : Int) ∈ src → seen[n]? = some true) (hedge : ∀ (n k : Nat) l, seen[n]? = some true → has[n]? = some l → (k : Int) ∈ l → seen[k]? = some true)
    (hpair : ∀ k v : Nat, seen[k]? = some true → ((k : Int), (v : Int)) ∈ pairs → seen[v]? = some true) : seen = fromL has src pairs := by
  apply bools_ext (by rw [fromL_length, hlen])
  intro n
  rw [fromL_get]
  constructor
  · intro h
    exact ⟨by rw [← hlen]; exact (List.getElem?_eq_some_iff.1 h).1, hsound n h⟩
  · rintro ⟨-, h⟩
    induction h with
    | root h => exact hsrc _ h
    | edge _ h1 h2 ih => exact hedge _ _ _ ih h1 h2
    | pair _ h1 ih => exact hpair _ _ ih h1

/-! ### reached by a list of things that are still to be gone on from -/
def unseen (seen : List Bool) : Nat := seen.countP (! ·)
theorem unseen_set {seen : List Bool} {k : Nat} (h : seen[k]? = some false) : unseen (seen.set k true) + 1 = unseen seen := by
  induction seen generalizing k with
  | nil => simp at h
  | cons b l ih =>
    cases k with
    | zero =>
      simp only [List.getElem?_cons_zero, Option.some.injEq] at h
      subst h
      simp [unseen]
    | succ k =>
      simp only [List.getElem?_cons_succ] at h
      have := ih h
      simp only [unseen, List.set_cons_succ, List.countP_cons] at this ⊢
      omega
theorem unseen_le (seen : List Bool) : unseen seen ≤ seen.length := List.countP_le_length
theorem set_true_get {seen : List Bool} {k n : Nat} (hk : k < seen.length) : (seen.set k true)[n]? = some true ↔ n = k ∨ seen[n]? = some true := by
  rw [List.getElem?_set]
  by_cases h : k = n
  · subst h; simp [hk]
  · rw [if_neg h]; simp [Ne.symm h]

def reach1 (st : List Bool × List Int) (n : Int) : List Bool × List Int := if st.1.getD n.toNat false = true then st else (st.1.set n.toNat true, st.2 ++ [n])
def reachL (l : List Int) (st : List Bool × List Int) : List Bool × List Int := l.foldl reach1 st
theorem reachL_snoc (l : List Int) (k : Nat) (x : Int) (st : List Bool × List Int) (h : l[k]? = some x) : reachL (l.take (k + 1)) st = reach1 (reachL (l.take k) st) x := by
  unfold reachL
  rw [List.take_add_one, h]; simp
theorem reach1_len (st : List Bool × List Int) (n : Int) : (reach1 st n).1.length = st.1.length := by unfold reach1; split <;> simp
theorem reachL_len (l : List Int) (st : List Bool × List Int) : (reachL l st).1.length = st.1.length := by
  unfold reachL
  induction l generalizing st with
  | nil => rfl
  | cons x l ih => rw [List.foldl_cons, ih, reach1_len]

structure Inv (has : List (List Int)) (src : List Int) (pairs : List (Int × Int)) (ex : List Int) (seen : List Bool) (todo : List Int) : Prop where
  len : seen.length = has.length
  sound : ∀ n, seen[n]? = some true → RT has src pairs n
  todo_ : ∀ x ∈ todo, ∃ n : Nat, x = (n : Int) ∧ seen[n]? = some true
  closed : ∀ (n k : Nat) l, seen[n]? = some true → has[n]? = some l → (k : Int) ∈ l → (n : Int) ∉ todo → (n : Int) ∉ ex → seen[k]? = some true

theorem Inv.start (has : List (List Int)) (src : List Int) (pairs : List (Int × Int)) : Inv has src pairs [] (List.replicate has.length false) [] :=
  ⟨by simp, fun n h => by rw [List.getElem?_replicate] at h; split at h <;> simp at h, fun x h => by simp at h, fun n k l h => by rw [List.getElem?_replicate] at h; split at h <;> simp at h⟩

def Grows (a b : List Bool) : Prop := ∀ n : Nat, a[n]? = some true → b[n]? = some true
theorem Grows.refl (a : List Bool) : Grows a a := fun _ h => h
theorem Grows.trans {a b c : List Bool} (h : Grows a b) (h' : Grows b c) : Grows a c := fun n hn => h' n (h n hn)

section
variable {has : List (List Int)} {src : List Int} {pairs : List (Int × Int)} {ex : List Int}
theorem getD_true {seen : List Bool} {k : Nat} : seen.getD k false = true ↔ seen[k]? = some true := by
  rw [List.getD_eq_getElem?_getD]
  cases seen[k]? with
  | none => simp
  | some b => simp
theorem get_false {seen : List Bool} {k : Nat} (hk : k < seen.length) (h : ¬ seen.getD k false = true) : seen[k]? = some false := by
  rw [getD_true] at h
  rw [List.getElem?_eq_getElem hk] at h ⊢
  cases h1 : seen[k] <;> simp_all
theorem Inv.reach1 {st : List Bool × List Int} (h : Inv has src pairs ex st.1 st.2) {k : Nat} (hk : k < has.length) (hr : RT has src pairs k) :
    Inv has src pairs ex (reach1 st k).1 (reach1 st k).2 ∧ Grows st.1 (Proofs.Ytpkccpegdpodoaa.reach1 st k).1 ∧ (Proofs.Ytpkccpegdpodoaa.reach1 st k).1[k]? = some true ∧
      2 * unseen (Proofs.Ytpkccpegdpodoaa.reach1 st k).1 + (Proofs.Ytpkccpegdpodoaa.reach1 st k).2.length ≤ 2 * unseen st.1 + st.2.length := by
  unfold Proofs.Ytpkccpegdpodoaa.reach1
  rw [Int.toNat_natCast]
  split
  · rename_i h1
    exact ⟨h, Grows.refl _, getD_true.1 h1, Nat.le_refl _⟩
  · rename_i h1
    have hkl : k < st.1.length := by rw [h.len]; exact hk
    have h2 := unseen_set (get_false hkl h1)
    refine ⟨⟨by simp [h.len], fun n hn => ?_, fun x hx => ?_, fun n k' l hn hl hk' ht he => ?_⟩, fun n hn => (set_true_get hkl).2 (.inr hn), (set_true_get hkl).2 (.inl rfl), ?_⟩
    · rcases (set_true_get hkl).1 hn with rfl | hn
      · exact hr
      · exact h.sound n hn
    · rcases List.mem_append.1 hx with hx | hx
      · obtain ⟨n, rfl, hn⟩ := h.todo_ x hx
        exact ⟨n, rfl, (set_true_get hkl).2 (.inr hn)⟩
      · simp only [List.mem_singleton] at hx
        exact ⟨k, hx, (set_true_get hkl).2 (.inl rfl)⟩
    · rcases (set_true_get hkl).1 hn with rfl | hn
      · exact absurd (List.mem_append_right _ (List.mem_singleton.2 rfl)) ht
      · exact (set_true_get hkl).2 (.inr (h.closed n k' l hn hl hk' (fun hm => ht (List.mem_append_left _ hm)) he))
    · simp only [List.length_append, List.length_singleton]
      omega
theorem Inv.reachL {l : List Int} {st : List Bool × List Int} (h : Inv has src pairs ex st.1 st.2) (hl : ∀ x ∈ l, ∃ k : Nat, x = (k : Int) ∧ k < has.length ∧ RT has src pairs k) :
    Inv has src pairs ex (reachL l st).1 (reachL l st).2 ∧ Grows st.1 (Proofs.Ytpkccpegdpodoaa.reachL l st).1 ∧ (∀ k : Nat, (k : Int) ∈ l → (Proofs.Ytpkccpegdpodoaa.reachL l st).1[k]? = some true) ∧
      2 * unseen (Proofs.Ytpkccpegdpodoaa.reachL l st).1 + (Proofs.Ytpkccpegdpodoaa.reachL l st).2.length ≤ 2 * unseen st.1 + st.2.length := by
  unfold Proofs.Ytpkccpegdpodoaa.reachL
  induction l generalizing st with
  | nil => exact ⟨h, Grows.refl _, fun k hk => by simp at hk, Nat.le_refl _⟩
  | cons x l ih =>
    obtain ⟨k, rfl, hk, hr⟩ := hl x (by simp)
    obtain ⟨h1, h2, h3, h4⟩ := h.reach1 hk hr
    obtain ⟨i1, i2, i3, i4⟩ := ih h1 (fun x hx => hl x (by simp [hx]))
    rw [List.foldl_cons]
    refine ⟨i1, h2.trans i2, fun k' hk' => ?_, by omega⟩
    rcases List.mem_cons.1 hk' with e | e
    · obtain rfl : k' = k := by omega
      exact i2 _ h3
    · exact i3 k' e
/-- the last one is taken off, and what it has is reached -/
theorem Inv.step (hright : Right has) {seen : List Bool} {todo : List Int} {x : Int} (h : Inv has src pairs [] seen (todo ++ [x])) {l : List Int} (hl : has[x.toNat]? = some l) :
    Inv has src pairs [] (Proofs.Ytpkccpegdpodoaa.reachL l (seen, todo)).1 (Proofs.Ytpkccpegdpodoaa.reachL l (seen, todo)).2 ∧ Grows seen (Proofs.Ytpkccpegdpodoaa.reachL l (seen, todo)).1 ∧
      2 * unseen (Proofs.Ytpkccpegdpodoaa.reachL l (seen, todo)).1 + (Proofs.Ytpkccpegdpodoaa.reachL l (seen, todo)).2.length < 2 * unseen seen + (todo ++ [x]).length := by
  obtain ⟨n, rfl, hn⟩ := h.todo_ x (by simp)
  rw [Int.toNat_natCast] at hl
  have h0 : Inv has src pairs [(n : Int)] (seen, todo).1 (seen, todo).2 :=
    ⟨h.len, h.sound, fun y hy => h.todo_ y (by simp [hy]), fun m k l' hm hl' hk ht he => h.closed m k l' hm hl' hk (by simp at he ⊢; exact ⟨ht, he⟩) (by simp)⟩
  obtain ⟨i1, i2, i3, i4⟩ := h0.reachL (l := l) (fun y hy => by
    obtain ⟨k, rfl, hk⟩ := hright l (List.mem_of_getElem? hl) y hy
    exact ⟨k, rfl, hk, .edge (h.sound n hn) hl hy⟩)
  refine ⟨⟨i1.len, i1.sound, i1.todo_, fun m k l' hm hl' hk ht _ => ?_⟩, i2, by simp only [List.length_append, List.length_singleton]; have i4' : _ ≤ 2 * unseen seen + todo.length := i4; omega⟩
  by_cases hmn : m = n
  · subst hmn
    rw [hl] at hl'
    injection hl' with hl'
    subst hl'
    exact i3 k hk
  · exact i1.closed m k l' hm hl' hk ht (by simp; omega)
/-- nothing is left to be gone on from -/
theorem Inv.done {seen : List Bool} (h : Inv has src pairs [] seen []) (hsrc : ∀ n : Nat, (n : Int) ∈ src → seen[n]? = some true) (hpair : ∀ k v : Nat, seen[k]? = some true → ((k : Int), (v : Int)) ∈ pairs → seen[v]? = some true) : seen = fromL has src pairs :=
  fromL_eq h.len h.sound hsrc (fun n k l h1 h2 h3 => h.closed n k l h1 h2 h3 (by simp) (by simp)) hpair
end

theorem unseen_grows : ∀ {a b : List Bool}, a.length = b.length → Grows a b → unseen b ≤ unseen a := by
  intro a
  induction a with
  | nil => intro b hl _; cases b with
    | nil => exact Nat.le_refl _
    | cons y b => simp at hl
  | cons x a ih =>
    intro b hl hg
    cases b with
    | nil => simp at hl
    | cons y b =>
      have h1 := ih (b := b) (by simpa using hl) (fun n hn => by simpa using hg (n + 1) (by simpa using hn))
      have h2 : x = true → y = true := fun hx => by simpa using hg 0 (by simp [hx])
      simp only [unseen, List.countP_cons] at h1 ⊢
      cases x <;> cases y <;> simp_all <;> omega

/-! ### reached round by round -/
/-- what a round keeps: what was seen ahead of it, what is now, whether there is more -/
structure RInv (has : List (List Int)) (src : List Int) (pairs : List (Int × Int)) (s0 s : List Bool) (m : Bool) : Prop where
  len : s.length = has.length
  len0 : s0.length = has.length
  sound : ∀ n, s[n]? = some true → RT has src pairs n
  grows : Grows s0 s
  same : m = false → s = s0
  less : unseen s + (if m = true then 1 else 0) ≤ unseen s0
section
variable {has : List (List Int)} {src : List Int} {pairs : List (Int × Int)} {s0 s : List Bool} {m : Bool}
theorem RInv.see (h : RInv has src pairs s0 s m) {k : Nat} (hk : k < has.length) (hr : RT has src pairs k) : RInv has src pairs s0 (s.set k true) (m || !(s.getD k false)) := by
  have hkl : k < s.length := by rw [h.len]; exact hk
  by_cases h1 : s.getD k false = true
  · have h2 : s[k]? = some true := getD_true.1 h1
    have h3 : s.set k true = s := by
      apply List.ext_getElem?
      intro i
      by_cases hi : k = i
      · subst hi; rw [List.getElem?_set_self hkl, h2]
      · rw [List.getElem?_set_ne hi]
    rw [h3, h1]
    simpa using h
  · have h2 := unseen_set (get_false hkl h1)
    have h4 : s.getD k false = false := by simpa using h1
    rw [h4]
    refine ⟨by simp [h.len], h.len0, fun n hn => ?_, fun n hn => (set_true_get hkl).2 (.inr (h.grows n hn)), fun hm => by simp at hm, ?_⟩
    · rcases (set_true_get hkl).1 hn with rfl | hn
      · exact hr
      · exact h.sound n hn
    · have := h.less
      simp
      omega
theorem see_get {k : Nat} (hk : k < s.length) : (s.set k true)[k]? = some true := (set_true_get hk).2 (.inl rfl)
theorem see_grows {k : Nat} (hk : k < s.length) : Grows s (s.set k true) := fun _n hn => (set_true_get hk).2 (.inr hn)
end
/-- the things' own, as far as they were gone through: those of the first i things, and the first j of the next -/
def EClosed (has : List (List Int)) (s0 s : List Bool) (i j : Nat) : Prop := ∀ (n k : Nat) l, s0[n]? = some true → has[n]? = some l → (n < i ∧ (k : Int) ∈ l ∨ n = i ∧ (k : Int) ∈ l.take j) → s[k]? = some true
def PClosed (pairs : List (Int × Int)) (s0 s : List Bool) (j : Nat) : Prop := ∀ k v : Nat, s0[k]? = some true → ((k : Int), (v : Int)) ∈ pairs.take j → s[v]? = some true
theorem EClosed.zero (has : List (List Int)) (s0 s : List Bool) : EClosed has s0 s 0 0 := fun n k l _ _ h => by
  rcases h with ⟨h, _⟩ | ⟨_, h⟩
  · omega
  · simp at h
theorem EClosed.grow {has : List (List Int)} {s0 s s' : List Bool} {i j : Nat} (h : EClosed has s0 s i j) (hg : Grows s s') : EClosed has s0 s' i j := fun n k l h1 h2 h3 => hg k (h n k l h1 h2 h3)
theorem PClosed.grow {pairs : List (Int × Int)} {s0 s s' : List Bool} {j : Nat} (h : PClosed pairs s0 s j) (hg : Grows s s') : PClosed pairs s0 s' j := fun k v h1 h2 => hg v (h k v h1 h2)
theorem PClosed.zero (pairs : List (Int × Int)) (s0 s : List Bool) : PClosed pairs s0 s 0 := fun k v _ h => by simp at h
/-- one more of a thing's own: it is seen now, if the thing was -/
theorem EClosed.next {has : List (List Int)} {s0 s : List Bool} {i j : Nat} (h : EClosed has s0 s i j) {l : List Int} {x : Nat} (hl : has[i]? = some l) (hx : l[j]? = some (x : Int)) (hs : s0[i]? = some true → s[x]? = some true) : EClosed has s0 s i (j + 1) := fun n k l' h1 h2 h3 => by
  rcases h3 with h3 | ⟨rfl, h3⟩
  · exact h n k l' h1 h2 (.inl h3)
  · rw [hl] at h2; injection h2 with h2; subst h2
    rw [List.take_add_one, hx] at h3
    rcases List.mem_append.1 h3 with h3 | h3
    · exact h n k l h1 hl (.inr ⟨rfl, h3⟩)
    · simp at h3
      obtain rfl : k = x := by omega
      exact hs h1
theorem EClosed.done {has : List (List Int)} {s0 s : List Bool} {i j : Nat} (h : EClosed has s0 s i j) {l : List Int} (hl : has[i]? = some l) (hj : l.length ≤ j) : EClosed has s0 s (i + 1) 0 := fun n k l' h1 h2 h3 => by
  rcases h3 with ⟨h3, h4⟩ | ⟨_, h3⟩
  · rcases Nat.lt_or_ge n i with hn | hn
    · exact h n k l' h1 h2 (.inl ⟨hn, h4⟩)
    · obtain rfl : n = i := by omega
      rw [hl] at h2; injection h2 with h2; subst h2
      exact h n k l h1 hl (.inr ⟨rfl, by rw [List.take_of_length_le hj]; exact h4⟩)
  · simp at h3
theorem PClosed.next {pairs : List (Int × Int)} {s0 s : List Bool} {j : Nat} (h : PClosed pairs s0 s j) {k v : Nat} (hx : pairs[j]? = some ((k : Int), (v : Int))) (hs : s0[k]? = some true → s[v]? = some true) : PClosed pairs s0 s (j + 1) := fun k' v' h1 h2 => by
  rw [List.take_add_one, hx] at h2
  rcases List.mem_append.1 h2 with h2 | h2
  · exact h k' v' h1 h2
  · simp at h2
    obtain ⟨h3, h4⟩ := h2
    obtain rfl : k' = k := by omega
    obtain rfl : v' = v := by omega
    exact hs h1
theorem RInv.fin {has : List (List Int)} {src : List Int} {pairs : List (Int × Int)} {s : List Bool} (hlen : s.length = has.length) (hsound : ∀ n, s[n]? = some true → RT has src pairs n) (hsrc : ∀ n : Nat, (n : Int) ∈ src → s[n]? = some true) (he : EClosed has s s has.length 0) (hp : PClosed pairs s s pairs.length) : s = fromL has src pairs :=
  fromL_eq hlen hsound hsrc (fun n k l h1 h2 h3 => he n k l h1 h2 (.inl ⟨by rw [← hlen]; exact (List.getElem?_eq_some_iff.1 h1).1, h3⟩)) (fun k v h1 h2 => hp k v h1 (by rw [List.take_length]; exact h2))

/-! ### numbers of those that are so -/
def risingFrom : Nat → List Bool → List Int
  | _, [] => []
  | i, b :: l => if b = true then (i : Int) :: risingFrom (i + 1) l else risingFrom (i + 1) l
def rising (l : List Bool) : List Int := risingFrom 0 l
theorem risingFrom_append (i : Nat) (l : List Bool) (b : Bool) : risingFrom i (l ++ [b]) = risingFrom i l ++ if b = true then [((i + l.length : Nat) : Int)] else [] := by
  induction l generalizing i with
  | nil => cases b <;> simp [risingFrom]
  | cons c l ih =>
    rw [List.cons_append, risingFrom, risingFrom, ih, List.length_cons, show i + 1 + l.length = i + (l.length + 1) by omega]
    cases c <;> simp
theorem rising_snoc (l : List Bool) (k : Nat) (b : Bool) (h : l[k]? = some b) : rising (l.take (k + 1)) = rising (l.take k) ++ if b = true then [(k : Int)] else [] := by
  have hk : k < l.length := (List.getElem?_eq_some_iff.1 h).1
  rw [List.take_add_one, h]
  unfold rising
  rw [Option.toList_some, risingFrom_append, List.length_take, Nat.min_eq_left (by omega), Nat.zero_add]
theorem risingFrom_length (i : Nat) (l : List Bool) : (risingFrom i l).length ≤ l.length := by
  induction l generalizing i with
  | nil => simp [risingFrom]
  | cons b l ih =>
    rw [risingFrom]
    have := ih (i + 1)
    split <;> simp <;> omega
theorem rising_length (l : List Bool) : (rising l).length ≤ l.length := risingFrom_length 0 l
theorem mem_risingFrom (i : Nat) (l : List Bool) (x : Int) : x ∈ risingFrom i l ↔ ∃ n : Nat, x = ((i + n : Nat) : Int) ∧ l[n]? = some true := by
  induction l generalizing i with
  | nil => simp [risingFrom]
  | cons b l ih =>
    rw [risingFrom]
    have key : (∃ n : Nat, x = ((i + n : Nat) : Int) ∧ (b :: l)[n]? = some true) ↔ ((x = (i : Int) ∧ b = true) ∨ ∃ n : Nat, x = ((i + 1 + n : Nat) : Int) ∧ l[n]? = some true) := by
      constructor
      · rintro ⟨n, hx, hn⟩
        cases n with
        | zero => simp at hn; exact .inl ⟨by simpa using hx, hn⟩
        | succ n => simp only [List.getElem?_cons_succ] at hn; exact .inr ⟨n, by omega, hn⟩
      · rintro (⟨hx, hb⟩ | ⟨n, hx, hn⟩)
        · exact ⟨0, by simpa using hx, by simp [hb]⟩
        · exact ⟨n + 1, by omega, by simpa using hn⟩
    rw [key]
    split
    · rename_i hb
      rw [List.mem_cons, ih]
      simp [hb]
    · rename_i hb
      rw [ih]
      simp [hb]
theorem mem_rising (l : List Bool) (x : Int) : x ∈ rising l ↔ ∃ n : Nat, x = (n : Int) ∧ l[n]? = some true := by
  unfold rising
  rw [mem_risingFrom]
  simp

end Go.Proofs.Ytpkccpegdpodoaa

/- Things that are marked step by step, the plain law: what each deed does, what stays so, and why nobody has what went. No program is named here. -/
namespace Go.Proofs.Ytpkccpegdpodoaa

/-- a thing: its places, how it stands, if it is held -/
structure It where
  has : List Int
  st : Int
  held : Bool

def gHas (s : List It) : List (List Int) := s.map fun x => x.has.filter fun k => decide (0 ≤ k)
def gRoots (s : List It) : List Int := rising (s.map It.held)
noncomputable def needed (s : List It) : List Bool := fromL (gHas s) (gRoots s) []
noncomputable def namedE (s : List It) (l : List Int) : Int := if l.all (inN s.length) = true then (if l.all (fun n => (needed s).getD n.toNat false) = true then 0 else 8) else 5
def are (s : List It) (v : Int) : List Int := rising (s.map fun x => decide (x.st = v))

def It.setst (v : Int) (x : It) : It := { x with st := v }
def It.sethas (j : Nat) (v : Int) (x : It) : It := { x with has := x.has.set j v }
def It.sethl (b : Bool) (x : It) : It := { x with held := b }
def stAt (s : List It) (i : Nat) : Option Int := s[i]?.map It.st
def edge (s : List It) (i k : Nat) : Prop := ∃ x, s[i]? = some x ∧ (k : Int) ∈ x.has
def heldAt (s : List It) (i : Nat) : Prop := ∃ x, s[i]? = some x ∧ x.held = true

def shadeI (mk : Bool) (n : Int) (s : List It) : List It := if mk = true ∧ 0 ≤ n ∧ stAt s n.toNat = some 0 then s.modify n.toNat (It.setst 1) else s
def shadeL (mk : Bool) (l : List Int) (s : List It) : List It := l.foldl (fun s n => shadeI mk n s) s
def greyAt (s : List It) : Nat := s.findIdx fun x => decide (x.st = 1)
def stepI (s : List It) : List It := shadeL true ((s[greyAt s]?.map It.has).getD []) (s.modify (greyAt s) (It.setst 2))
def stepsI : Nat → List It → List It × Nat
  | 0, s => (s, 0)
  | n + 1, s => if greyAt s < s.length then ((stepsI n (stepI s)).1, (stepsI n (stepI s)).2 + 1) else (s, 0)
/-- what is still to be done -/
def pot1 (v : Int) : Nat := if v = 0 then 2 else if v = 1 then 1 else 0
def pot (s : List It) : Nat := (s.map fun x => pot1 x.st).sum
def beginI (s : List It) : List It := s.map fun x => if x.held = true ∧ x.st = 0 then x.setst 1 else x
def sweep1 (x : It) : It := if x.st = 0 then ⟨[], 3, false⟩ else if x.st = 2 then x.setst 0 else x
def endI (s : List It) : List It := (stepsI (pot s) s).1.map sweep1
def endN (s : List It) : Nat := ((stepsI (pot s) s).1).countP fun x => decide (x.st = 0)
def newI (v n : Int) : It := ⟨List.replicate n.toNat (-1), v, true⟩

/-! ### places of a list that is turned in one place -/
section
variable {s : List It} {i j k : Nat} {f : It → It}
theorem get_modify (s : List It) (i j : Nat) (f : It → It) : (s.modify i f)[j]? = if i = j then s[j]?.map f else s[j]? := by
  rw [List.getElem?_modify]
  by_cases h : i = j <;> simp [h]
theorem stAt_modify (v : Int) : stAt (s.modify i (It.setst v)) j = if i = j then (stAt s j).map (fun _ => v) else stAt s j := by
  unfold stAt
  rw [get_modify]
  by_cases h : i = j
  · simp only [h, if_true]
    cases s[j]? <;> rfl
  · rw [if_neg h, if_neg h]
theorem edge_setst (v : Int) : edge (s.modify i (It.setst v)) j k ↔ edge s j k := by
  unfold edge
  rw [get_modify]
  by_cases h : i = j
  · simp only [h, if_true]
    cases s[j]? <;> simp [It.setst]
  · rw [if_neg h]
theorem heldAt_setst (v : Int) : heldAt (s.modify i (It.setst v)) j ↔ heldAt s j := by
  unfold heldAt
  rw [get_modify]
  by_cases h : i = j
  · simp only [h, if_true]
    cases s[j]? <;> simp [It.setst]
  · rw [if_neg h]
theorem stAt_lt {v : Int} (h : stAt s i = some v) : i < s.length := by
  unfold stAt at h
  cases hs : s[i]? with
  | none => rw [hs] at h; cases h
  | some x => exact (List.getElem?_eq_some_iff.1 hs).1
theorem stAt_get {x : It} (h : s[i]? = some x) : stAt s i = some x.st := by unfold stAt; rw [h]; rfl
theorem get_stAt {v : Int} (h : stAt s i = some v) : ∃ x, s[i]? = some x ∧ x.st = v := by
  unfold stAt at h
  cases hs : s[i]? with
  | none => rw [hs] at h; cases h
  | some x => rw [hs] at h; injection h with h; exact ⟨x, rfl, h⟩
end

theorem shadeI_length (mk : Bool) (n : Int) (s : List It) : (shadeI mk n s).length = s.length := by unfold shadeI; split <;> simp
theorem shadeL_length (mk : Bool) (l : List Int) (s : List It) : (shadeL mk l s).length = s.length := by
  unfold shadeL
  induction l generalizing s with
  | nil => rfl
  | cons x l ih => rw [List.foldl_cons, ih, shadeI_length]
theorem shadeL_snoc (mk : Bool) (l : List Int) (k : Nat) (x : Int) (s : List It) (h : l[k]? = some x) : shadeL mk (l.take (k + 1)) s = shadeI mk x (shadeL mk (l.take k) s) := by
  unfold shadeL
  rw [List.take_add_one, h]; simp
theorem stAt_shade (mk : Bool) (n : Int) (s : List It) (j : Nat) : stAt (shadeI mk n s) j = if mk = true ∧ n = (j : Int) ∧ stAt s j = some 0 then some 1 else stAt s j := by
  unfold shadeI
  split
  · rename_i h
    rw [stAt_modify]
    by_cases e : n.toNat = j
    · rw [if_pos e, if_pos ⟨h.1, by omega, by rw [← e]; exact h.2.2⟩, ← e, h.2.2]; rfl
    · rw [if_neg e, if_neg (by rintro ⟨-, h2, -⟩; omega)]
  · rename_i h
    rw [if_neg]
    rintro ⟨h1, rfl, h3⟩
    exact h ⟨h1, by omega, by simpa using h3⟩
theorem edge_shade (mk : Bool) (n : Int) (s : List It) (j k : Nat) : edge (shadeI mk n s) j k ↔ edge s j k := by
  unfold shadeI
  split
  · exact edge_setst _
  · exact Iff.rfl
theorem held_shade (mk : Bool) (n : Int) (s : List It) (j : Nat) : heldAt (shadeI mk n s) j ↔ heldAt s j := by
  unfold shadeI
  split
  · exact heldAt_setst _
  · exact Iff.rfl
theorem stAt_shadeL (l : List Int) (s : List It) (j : Nat) : stAt (shadeL true l s) j = if (j : Int) ∈ l ∧ stAt s j = some 0 then some 1 else stAt s j := by
  unfold shadeL
  induction l generalizing s with
  | nil => simp
  | cons x l ih =>
    rw [List.foldl_cons, ih, stAt_shade]
    by_cases h : x = (j : Int)
    · subst h
      by_cases h0 : stAt s j = some 0
      · simp [h0]
      · simp [h0]
    · have h' : ¬ (j : Int) = x := fun e => h e.symm
      simp [h, h']
theorem edge_shadeL (mk : Bool) (l : List Int) (s : List It) (j k : Nat) : edge (shadeL mk l s) j k ↔ edge s j k := by
  unfold shadeL
  induction l generalizing s with
  | nil => exact Iff.rfl
  | cons x l ih => rw [List.foldl_cons, ih, edge_shade]
theorem held_shadeL (mk : Bool) (l : List Int) (s : List It) (j : Nat) : heldAt (shadeL mk l s) j ↔ heldAt s j := by
  unfold shadeL
  induction l generalizing s with
  | nil => exact Iff.rfl
  | cons x l ih => rw [List.foldl_cons, ih, held_shade]

/-! ### what is still to be done grows less -/
theorem pot_modify {s : List It} {i : Nat} {v u : Int} (h : stAt s i = some v) (hv : pot1 u < pot1 v) : pot (s.modify i (It.setst u)) < pot s := by
  induction s generalizing i with
  | nil => simp [stAt] at h
  | cons x s ih =>
    cases i with
    | zero =>
      simp only [stAt, List.getElem?_cons_zero, Option.map_some, Option.some.injEq] at h
      simp only [pot, List.modify_zero_cons, List.map_cons, List.sum_cons, It.setst]
      rw [h]; omega
    | succ i =>
      have h' : stAt s i = some v := by simpa [stAt] using h
      have := ih h'
      simp only [pot, List.modify_succ_cons, List.map_cons, List.sum_cons] at this ⊢
      omega
theorem pot_shade (mk : Bool) (n : Int) (s : List It) : pot (shadeI mk n s) ≤ pot s := by
  unfold shadeI
  split
  · rename_i h
    exact Nat.le_of_lt (pot_modify h.2.2 (by decide))
  · exact Nat.le_refl _
theorem pot_shadeL (mk : Bool) (l : List Int) (s : List It) : pot (shadeL mk l s) ≤ pot s := by
  unfold shadeL
  induction l generalizing s with
  | nil => exact Nat.le_refl _
  | cons x l ih => exact Nat.le_trans (ih _) (pot_shade _ _ _)
theorem greyAt_st {s : List It} (h : greyAt s < s.length) : stAt s (greyAt s) = some 1 := by
  unfold greyAt at h ⊢
  have := List.findIdx_getElem (w := h)
  simp only [decide_eq_true_eq] at this
  unfold stAt
  rw [List.getElem?_eq_getElem h]
  simp [this]
theorem greyAt_none {s : List It} (h : ¬ greyAt s < s.length) (i : Nat) : stAt s i ≠ some 1 := by
  intro e
  obtain ⟨x, hx, h1⟩ := get_stAt e
  exact h (List.findIdx_lt_length.2 ⟨x, List.mem_of_getElem? hx, by simp [h1]⟩)
theorem pot_step {s : List It} (h : greyAt s < s.length) : pot (stepI s) < pot s := by
  unfold stepI
  exact Nat.lt_of_le_of_lt (pot_shadeL _ _ _) (pot_modify (greyAt_st h) (by decide))
theorem stepI_length (s : List It) : (stepI s).length = s.length := by unfold stepI; rw [shadeL_length]; simp
theorem stepsI_length : ∀ (n : Nat) (s : List It), (stepsI n s).1.length = s.length
  | 0, s => rfl
  | n + 1, s => by
    unfold stepsI
    split
    · rw [stepsI_length n, stepI_length]
    · rfl
theorem stepsI_le : ∀ (n : Nat) (s : List It), (stepsI n s).2 ≤ pot s
  | 0, s => Nat.zero_le _
  | n + 1, s => by
    unfold stepsI
    split
    · rename_i h
      have := stepsI_le n (stepI s)
      have := pot_step h
      simp only
      omega
    · exact Nat.zero_le _
theorem stepsI_done : ∀ (n : Nat) (s : List It), pot s ≤ n → ¬ greyAt (stepsI n s).1 < (stepsI n s).1.length
  | 0, s, h => by
    intro hg
    have := pot_step hg
    simp only [stepsI] at this
    omega
  | n + 1, s, h => by
    unfold stepsI
    split
    · rename_i hg
      exact stepsI_done n _ (by have := pot_step hg; omega)
    · rename_i hg; exact hg
/-- steps as long as there are any, whatever the bound -/
theorem stepsI_more : ∀ (n m : Nat) (s : List It), pot s ≤ n → pot s ≤ m → stepsI n s = stepsI m s
  | 0, 0, _, _, _ => rfl
  | 0, m + 1, s, h, _ => by
    simp only [stepsI]
    rw [if_neg]
    intro hg; have := pot_step hg; omega
  | n + 1, 0, s, _, h => by
    simp only [stepsI]
    rw [if_neg]
    intro hg; have := pot_step hg; omega
  | n + 1, m + 1, s, h1, h2 => by
    unfold stepsI
    split
    · rename_i hg
      have := pot_step hg
      rw [stepsI_more n m (stepI s) (by omega) (by omega)]
    · rfl
theorem stepsAll_step {s : List It} (h : greyAt s < s.length) : (stepsI (pot s) s).1 = (stepsI (pot (stepI s)) (stepI s)).1 := by
  have h1 := pot_step h
  obtain ⟨n, hn⟩ : ∃ n, pot s = n + 1 := ⟨pot s - 1, by omega⟩
  rw [hn]
  have h2 : (stepsI (n + 1) s).1 = (stepsI n (stepI s)).1 := by
    show (if greyAt s < s.length then ((stepsI n (stepI s)).1, (stepsI n (stepI s)).2 + 1) else (s, 0)).1 = _
    rw [if_pos h]
  rw [h2, stepsI_more n (pot (stepI s)) _ (by omega) (Nat.le_refl _)]
theorem stepsAll_none {s : List It} (h : ¬ greyAt s < s.length) : (stepsI (pot s) s).1 = s := by
  cases hp : pot s with
  | zero => rfl
  | succ n => unfold stepsI; rw [if_neg h]

end Go.Proofs.Ytpkccpegdpodoaa

/- Things that are marked: what every deed keeps; behind the end nobody has what went. No program is named here. -/
namespace Go.Proofs.Ytpkccpegdpodoaa

/-- a white one that is led to from a grey one through white ones -/
inductive Prot (s : List It) : Nat → Prop
  | base {i k : Nat} : stAt s i = some 1 → edge s i k → stAt s k = some 0 → Prot s k
  | step {i k : Nat} : Prot s i → edge s i k → stAt s k = some 0 → Prot s k
theorem Prot.white {s : List It} {k : Nat} (h : Prot s k) : stAt s k = some 0 := by cases h <;> assumption
theorem Prot.keep {s s' : List It} (hst : ∀ i, stAt s i = some 0 → stAt s' i = some 0 ∨ stAt s' i = some 1) (hgrey : ∀ i, stAt s i = some 1 → stAt s' i = some 1 ∨ ∀ k, edge s i k → stAt s k = some 0 → stAt s' k ≠ some 0)
    (hedge : ∀ i k, edge s i k → stAt s' k = some 0 → edge s' i k) {y : Nat} (h : Prot s y) : stAt s' y = some 0 → Prot s' y := by
  induction h with
  | base h1 h2 h3 =>
    intro h0
    rcases hgrey _ h1 with h4 | h4
    · exact .base h4 (hedge _ _ h2 h0) h0
    · exact absurd h0 (h4 _ h2 h3)
  | step h1 h2 h3 ih =>
    intro h0
    rcases hst _ h1.white with h4 | h4
    · exact .step (ih h4) (hedge _ _ h2 h0) h0
    · exact .base h4 (hedge _ _ h2 h0) h0
theorem Prot.grey {s : List It} {y : Nat} (h : Prot s y) : ∃ i, stAt s i = some 1 := by
  induction h with
  | base h1 => exact ⟨_, h1⟩
  | step _ _ _ ih => exact ih

/-- a white one that is held, or that a black one has -/
def Bad (s : List It) (y : Nat) : Prop := stAt s y = some 0 ∧ (heldAt s y ∨ ∃ x, stAt s x = some 2 ∧ edge s x y)

structure MInv (kind : Int) (mk : Bool) (s : List It) : Prop where
  small : s.length ≤ 100
  long : ∀ x ∈ s, x.has.length ≤ 10
  refs : ∀ x ∈ s, ∀ k ∈ x.has, k = -1 ∨ ∃ n : Nat, k = (n : Int) ∧ n < s.length ∧ stAt s n ≠ some 3
  sts : ∀ x ∈ s, x.st = 0 ∨ x.st = 1 ∨ x.st = 2 ∨ x.st = 3
  gone : ∀ x ∈ s, x.st = 3 → x.has = [] ∧ x.held = false
  rest : mk = false → ∀ x ∈ s, x.st = 0 ∨ x.st = 3
  tri : mk = true → ∀ y, Bad s y → kind = 2 ∧ Prot s y

theorem MInv.start (kind : Int) : MInv kind false [] := ⟨by simp, by simp, by simp, by simp, by simp, by simp, by simp⟩

/-- the graph of things as edges -/
theorem gHas_length (s : List It) : (gHas s).length = s.length := by simp [gHas]
theorem gHas_edge {s : List It} {n k : Nat} {l : List Int} (hl : (gHas s)[n]? = some l) (hk : (k : Int) ∈ l) : edge s n k := by
  unfold gHas at hl
  rw [List.getElem?_map] at hl
  cases hs : s[n]? with
  | none => rw [hs] at hl; cases hl
  | some x =>
    rw [hs] at hl
    injection hl with hl
    subst hl
    exact ⟨x, hs, (List.mem_filter.1 hk).1⟩
theorem mem_gRoots {s : List It} {x : Int} : x ∈ gRoots s ↔ ∃ n : Nat, x = (n : Int) ∧ heldAt s n := by
  unfold gRoots heldAt
  rw [mem_rising]
  constructor
  · rintro ⟨n, rfl, h⟩
    rw [List.getElem?_map] at h
    cases hs : s[n]? with
    | none => rw [hs] at h; cases h
    | some y => rw [hs] at h; injection h with h; exact ⟨n, rfl, y, by simp [hs], h⟩
  · rintro ⟨n, rfl, y, h1, h2⟩
    exact ⟨n, rfl, by rw [List.getElem?_map, h1]; simp [h2]⟩
theorem needed_RT {s : List It} {n : Nat} (h : (needed s).getD n false = true) : RT (gHas s) (gRoots s) [] n := by
  rw [getD_true] at h
  unfold needed at h
  exact ((fromL_get _ _ _ _).1 h).2

section
variable {kind : Int} {mk : Bool} {s : List It}
theorem MInv.right (h : MInv kind mk s) : Right (gHas s) := by
  intro l hl x hx
  unfold gHas at hl
  obtain ⟨y, hy, rfl⟩ := List.mem_map.1 hl
  have hm := List.mem_filter.1 hx
  rcases h.refs y hy x hm.1 with h1 | ⟨n, h1, h2, -⟩
  · subst h1; simp at hm
  · exact ⟨n, h1, by rw [gHas_length]; exact h2⟩
theorem MInv.rightL (_h : MInv kind mk s) : RightL (gHas s).length (gRoots s) := by
  intro x hx
  obtain ⟨n, rfl, y, h1, -⟩ := mem_gRoots.1 hx
  exact ⟨n, rfl, by rw [gHas_length]; exact (List.getElem?_eq_some_iff.1 h1).1⟩
theorem MInv.edge_lt (h : MInv kind mk s) {i k : Nat} (he : edge s i k) : k < s.length ∧ stAt s k ≠ some 3 := by
  obtain ⟨x, hx, hk⟩ := he
  rcases h.refs x (List.mem_of_getElem? hx) _ hk with h1 | ⟨n, h1, h2, h3⟩
  · omega
  · obtain rfl : n = k := by omega
    exact ⟨h2, h3⟩
theorem MInv.held_alive (h : MInv kind mk s) {i : Nat} (he : heldAt s i) : stAt s i ≠ some 3 := by
  obtain ⟨x, hx, hk⟩ := he
  intro e
  rw [stAt_get hx] at e
  injection e with e
  have := (h.gone x (List.mem_of_getElem? hx) e).2
  rw [hk] at this; cases this
theorem MInv.st_cases (h : MInv kind mk s) {i : Nat} (hi : i < s.length) : stAt s i = some 0 ∨ stAt s i = some 1 ∨ stAt s i = some 2 ∨ stAt s i = some 3 := by
  have hx : s[i]? = some s[i] := List.getElem?_eq_getElem hi
  rw [stAt_get hx]
  rcases h.sts _ (List.mem_of_getElem? hx) with h | h | h | h <;> rw [h] <;> simp
/-- what is needed is not gone; if it is white while there is marking of the second kind, it will be come to -/
theorem MInv.need (h : MInv kind mk s) {n : Nat} (hn : RT (gHas s) (gRoots s) [] n) : n < s.length ∧ stAt s n ≠ some 3 ∧ (mk = true → kind = 2 → stAt s n = some 0 → Prot s n) := by
  induction hn with
  | root h1 =>
    obtain ⟨m, e, hm⟩ := mem_gRoots.1 h1
    obtain rfl : m = _ := (Int.ofNat.inj e).symm
    obtain ⟨x, hx, hx2⟩ := hm
    exact ⟨(List.getElem?_eq_some_iff.1 hx).1, h.held_alive ⟨x, hx, hx2⟩, fun h1 _ h0 => (h.tri h1 _ ⟨h0, .inl ⟨x, hx, hx2⟩⟩).2⟩
  | edge hr h1 h2 ih =>
    have he := gHas_edge h1 h2
    have hl := h.edge_lt he
    refine ⟨hl.1, hl.2, fun hm hk h0 => ?_⟩
    obtain ⟨i1, i2, i3⟩ := ih
    rcases h.st_cases i1 with h3 | h3 | h3 | h3
    · exact .step (i3 hm hk h3) he h0
    · exact .base h3 he h0
    · exact (h.tri hm _ ⟨h0, .inr ⟨_, h3, he⟩⟩).2
    · exact absurd h3 i2
  | pair _ h1 => simp at h1
end

/-- a thing turned in its colour, from white to grey -/
theorem MInv.shade {kind : Int} {mk : Bool} {s : List It} (h : MInv kind mk s) (n : Int) : MInv kind mk (shadeI mk n s) := by
  have hmem : ∀ x ∈ shadeI mk n s, ∃ y ∈ s, x.has = y.has ∧ x.held = y.held ∧ (x.st = y.st ∨ x.st = 1 ∧ y.st = 0 ∧ mk = true) := by
    intro x hx
    obtain ⟨i, hi⟩ := List.mem_iff_getElem?.1 hx
    unfold shadeI at hi
    split at hi
    · rename_i hc
      rw [get_modify] at hi
      by_cases e : n.toNat = i
      · rw [if_pos e] at hi
        cases hs : s[i]? with
        | none => rw [hs] at hi; cases hi
        | some y =>
          rw [hs] at hi
          injection hi with hi
          subst hi
          have h0 := hc.2.2
          rw [e, stAt_get hs] at h0
          injection h0 with h0
          exact ⟨y, List.mem_of_getElem? hs, rfl, rfl, .inr ⟨rfl, h0, hc.1⟩⟩
      · rw [if_neg e] at hi
        exact ⟨x, List.mem_of_getElem? hi, rfl, rfl, .inl rfl⟩
    · exact ⟨x, List.mem_of_getElem? hi, rfl, rfl, .inl rfl⟩
  have hst3 : ∀ j, stAt (shadeI mk n s) j = some 3 → stAt s j = some 3 := by
    intro j hj
    rw [stAt_shade] at hj
    split at hj
    · cases hj
    · exact hj
  refine ⟨by rw [shadeI_length]; exact h.small, fun x hx => ?_, fun x hx k hk => ?_, fun x hx => ?_, fun x hx h3 => ?_, fun hm x hx => ?_, fun hm y hb => ?_⟩
  · obtain ⟨y, hy, e, -⟩ := hmem x hx; rw [e]; exact h.long y hy
  · obtain ⟨y, hy, e, -⟩ := hmem x hx
    rw [e] at hk
    rcases h.refs y hy k hk with h1 | ⟨m, h1, h2, h3⟩
    · exact .inl h1
    · exact .inr ⟨m, h1, by rw [shadeI_length]; exact h2, fun e => h3 (hst3 _ e)⟩
  · obtain ⟨y, hy, -, -, e | e⟩ := hmem x hx
    · rw [e]; exact h.sts y hy
    · exact .inr (.inl e.1)
  · obtain ⟨y, hy, e1, e2, e | e⟩ := hmem x hx
    · rw [e1, e2]; exact h.gone y hy (by rw [← e]; exact h3)
    · rw [e.1] at h3; cases h3
  · obtain ⟨y, hy, -, -, e | e⟩ := hmem x hx
    · rw [e]; exact h.rest hm y hy
    · rw [e.2.2] at hm; cases hm
  · obtain ⟨h0, hb⟩ := hb
    have h0s : stAt s y = some 0 := by
      rw [stAt_shade] at h0
      split at h0
      · cases h0
      · exact h0
    have hbad : Bad s y := by
      refine ⟨h0s, ?_⟩
      rcases hb with hb | ⟨x, h2, he⟩
      · exact .inl ((held_shade _ _ _ _).1 hb)
      · refine .inr ⟨x, ?_, (edge_shade _ _ _ _ _).1 he⟩
        rw [stAt_shade] at h2
        split at h2
        · cases h2
        · exact h2
    obtain ⟨hk, hp⟩ := h.tri hm y hbad
    refine ⟨hk, hp.keep (fun i hi => ?_) (fun i hi => .inl ?_) (fun i k he _ => (edge_shade _ _ _ _ _).2 he) h0⟩
    · rw [stAt_shade]
      split
      · exact .inr rfl
      · exact .inl hi
    · rw [stAt_shade]
      split
      · rfl
      · exact hi

end Go.Proofs.Ytpkccpegdpodoaa

/- Things that are marked: each deed keeps what is kept; the end. No program is named here. -/
namespace Go.Proofs.Ytpkccpegdpodoaa

section
variable {kind : Int} {mk mk' : Bool} {s s' : List It}
theorem MInv.recol (h : MInv kind mk s) (hl : s'.length = s.length) (hx : ∀ (i : Nat) (x x' : It), s[i]? = some x → s'[i]? = some x' → x'.has = x.has ∧ x'.held = x.held ∧ (x'.st = 3 ↔ x.st = 3) ∧ (x'.st = 0 ∨ x'.st = 1 ∨ x'.st = 2 ∨ x'.st = 3))
    (hrest : mk' = false → ∀ x ∈ s', x.st = 0 ∨ x.st = 3) (htri : mk' = true → ∀ y, Bad s' y → kind = 2 ∧ Prot s' y) : MInv kind mk' s' := by
  have back : ∀ x' ∈ s', ∃ (i : Nat) (x : It), s[i]? = some x ∧ s'[i]? = some x' := by
    intro x' hx'
    obtain ⟨i, hi⟩ := List.mem_iff_getElem?.1 hx'
    have : i < s.length := by rw [← hl]; exact (List.getElem?_eq_some_iff.1 hi).1
    exact ⟨i, s[i], List.getElem?_eq_getElem this, hi⟩
  have st3 : ∀ n, stAt s' n = some 3 → stAt s n = some 3 := by
    intro n hn
    obtain ⟨x', h1, h2⟩ := get_stAt hn
    have hlt : n < s.length := by rw [← hl]; exact (List.getElem?_eq_some_iff.1 h1).1
    have h3 : s[n]? = some s[n] := List.getElem?_eq_getElem hlt
    rw [stAt_get h3, (hx n _ _ h3 h1).2.2.1.1 h2]
  refine ⟨by rw [hl]; exact h.small, fun x' hx' => ?_, fun x' hx' k hk => ?_, fun x' hx' => ?_, fun x' hx' h3 => ?_, hrest, htri⟩
  · obtain ⟨i, x, h1, h2⟩ := back x' hx'
    rw [(hx i x x' h1 h2).1]; exact h.long x (List.mem_of_getElem? h1)
  · obtain ⟨i, x, h1, h2⟩ := back x' hx'
    rw [(hx i x x' h1 h2).1] at hk
    rcases h.refs x (List.mem_of_getElem? h1) k hk with e | ⟨n, e, e2, e3⟩
    · exact .inl e
    · exact .inr ⟨n, e, by rw [hl]; exact e2, fun e4 => e3 (st3 n e4)⟩
  · obtain ⟨i, x, h1, h2⟩ := back x' hx'
    exact (hx i x x' h1 h2).2.2.2
  · obtain ⟨i, x, h1, h2⟩ := back x' hx'
    obtain ⟨e1, e2, e3, -⟩ := hx i x x' h1 h2
    rw [e1, e2]
    exact h.gone x (List.mem_of_getElem? h1) (e3.1 h3)
theorem recol_edge (hl : s'.length = s.length) (hx : ∀ (i : Nat) (x x' : It), s[i]? = some x → s'[i]? = some x' → x'.has = x.has ∧ x'.held = x.held) (i k : Nat) : (edge s' i k ↔ edge s i k) ∧ (heldAt s' i ↔ heldAt s i) := by
  by_cases hi : i < s.length
  · have h1 : s[i]? = some s[i] := List.getElem?_eq_getElem hi
    have h2 : s'[i]? = some (s'[i]'(by omega)) := List.getElem?_eq_getElem (by omega)
    obtain ⟨e1, e2⟩ := hx i _ _ h1 h2
    unfold edge heldAt
    rw [h1, h2]
    simp only [Option.some.injEq]
    constructor
    · constructor
      · rintro ⟨x, rfl, h⟩; exact ⟨_, rfl, by rw [← e1]; exact h⟩
      · rintro ⟨x, rfl, h⟩; exact ⟨_, rfl, by rw [e1]; exact h⟩
    · constructor
      · rintro ⟨x, rfl, h⟩; exact ⟨_, rfl, by rw [← e2]; exact h⟩
      · rintro ⟨x, rfl, h⟩; exact ⟨_, rfl, by rw [e2]; exact h⟩
  · have h1 : s[i]? = none := List.getElem?_eq_none (by omega)
    have h2 : s'[i]? = none := List.getElem?_eq_none (by omega)
    unfold edge heldAt
    rw [h1, h2]
    simp

/-! ### one step -/
open Classical in
theorem stAt_step (hg : greyAt s < s.length) (j : Nat) : stAt (stepI s) j = if j = greyAt s then some 2 else if edge s (greyAt s) j ∧ stAt s j = some 0 then some 1 else stAt s j := by
  have hx : s[greyAt s]? = some s[greyAt s] := List.getElem?_eq_getElem hg
  unfold stepI
  rw [stAt_shadeL, stAt_modify, hx]
  by_cases e : j = greyAt s
  · subst e
    rw [if_pos rfl, if_pos rfl, greyAt_st hg]
    rw [if_neg (by simp)]; rfl
  · have e' : ¬ greyAt s = j := fun h => e h.symm
    rw [if_neg e', if_neg e]
    have he : edge s (greyAt s) j ↔ (j : Int) ∈ ((some s[greyAt s]).map It.has).getD [] := by
      unfold edge; rw [hx]; simp
    by_cases h1 : edge s (greyAt s) j ∧ stAt s j = some 0
    · rw [if_pos h1, if_pos ⟨he.1 h1.1, h1.2⟩]
    · rw [if_neg h1, if_neg (fun h2 => h1 ⟨he.2 h2.1, h2.2⟩)]
theorem step_same (_hg : greyAt s < s.length) : ∀ (i : Nat) (x x' : It), s[i]? = some x → (stepI s)[i]? = some x' → x'.has = x.has ∧ x'.held = x.held := by
  have key : ∀ (l : List Int) (s : List It) (i : Nat) (x x' : It), s[i]? = some x → (shadeL true l s)[i]? = some x' → x'.has = x.has ∧ x'.held = x.held := by
    intro l
    induction l with
    | nil => intro s i x x' h1 h2; unfold shadeL at h2; rw [List.foldl_nil, h1] at h2; injection h2 with h2; subst h2; exact ⟨rfl, rfl⟩
    | cons a l ih =>
      intro s i x x' h1 h2
      have h2' : (shadeL true l (shadeI true a s))[i]? = some x' := h2
      have hi : i < (shadeI true a s).length := by rw [shadeI_length]; exact (List.getElem?_eq_some_iff.1 h1).1
      have h3 : (shadeI true a s)[i]? = some (shadeI true a s)[i] := List.getElem?_eq_getElem hi
      obtain ⟨e1, e2⟩ := ih _ i _ x' h3 h2'
      rw [e1, e2]
      generalize (shadeI true a s)[i] = z at h3
      unfold shadeI at h3
      split at h3
      · rw [get_modify] at h3
        split at h3
        · rw [h1] at h3; injection h3 with h3; subst h3; exact ⟨rfl, rfl⟩
        · rw [h1] at h3; injection h3 with h3; subst h3; exact ⟨rfl, rfl⟩
      · rw [h1] at h3; injection h3 with h3; subst h3; exact ⟨rfl, rfl⟩
  intro i x x' h1 h2
  unfold stepI at h2
  by_cases e : greyAt s = i
  · have h3 : (s.modify (greyAt s) (It.setst 2))[i]? = some (x.setst 2) := by rw [get_modify, if_pos e, h1]; rfl
    exact key _ _ i (x.setst 2) x' h3 h2
  · have h3 : (s.modify (greyAt s) (It.setst 2))[i]? = some x := by rw [get_modify, if_neg e, h1]
    exact key _ _ i _ x' h3 h2
theorem MInv.stepI (h : MInv kind true s) (hg : greyAt s < s.length) : MInv kind true (stepI s) := by
  have hs := stAt_step hg
  have hsame := step_same hg
  have hl := stepI_length s
  have hed := fun i k => recol_edge hl hsame i k
  have g1 := greyAt_st hg
  refine h.recol hl (fun i x x' h1 h2 => ?_) (fun e => by cases e) (fun _ y hb => ?_)
  · obtain ⟨e1, e2⟩ := hsame i x x' h1 h2
    refine ⟨e1, e2, ?_⟩
    have hst := hs i
    rw [stAt_get h2, stAt_get h1] at hst
    split at hst
    · rename_i e
      injection hst with hst
      rw [← e, stAt_get h1] at g1
      injection g1 with g1
      rw [hst, g1]; simp
    · split at hst
      · rename_i e
        injection hst with hst
        have e3 := e.2
        injection e3 with e3
        rw [hst, e3]; simp
      · injection hst with hst
        rw [hst]
        exact ⟨Iff.rfl, h.sts x (List.mem_of_getElem? h1)⟩
  · obtain ⟨h0, hb⟩ := hb
    have hy : y ≠ greyAt s ∧ ¬ (edge s (greyAt s) y ∧ stAt s y = some 0) ∧ stAt s y = some 0 := by
      rw [hs] at h0
      split at h0
      · cases h0
      · split at h0
        · cases h0
        · exact ⟨by assumption, by assumption, h0⟩
    have hbad : Bad s y := by
      refine ⟨hy.2.2, ?_⟩
      rcases hb with hb | ⟨x, h2, he⟩
      · exact .inl ((hed y 0).2.1 hb)
      · have he' := (hed x y).1.1 he
        refine .inr ⟨x, ?_, he'⟩
        rw [hs] at h2
        split at h2
        · rename_i e
          subst e
          exact absurd ⟨he', hy.2.2⟩ hy.2.1
        · split at h2
          · cases h2
          · exact h2
    obtain ⟨hk, hp⟩ := h.tri rfl y hbad
    refine ⟨hk, hp.keep (fun i hi => ?_) (fun i hi => ?_) (fun i k he _ => (hed i k).1.2 he) h0⟩
    · rw [hs]
      split
      · rename_i e; subst e; rw [g1] at hi; cases hi
      · split
        · exact .inr rfl
        · exact .inl hi
    · by_cases e : i = greyAt s
      · right
        intro k he hk0
        rw [hs]
        split
        · simp
        · rw [if_pos ⟨by rw [← e]; exact he, hk0⟩]; simp
      · left
        rw [hs, if_neg e]
        split
        · rfl
        · exact hi
theorem MInv.stepsI (h : MInv kind true s) (n : Nat) : MInv kind true (stepsI n s).1 := by
  induction n generalizing s with
  | zero => exact h
  | succ n ih =>
    unfold Proofs.Ytpkccpegdpodoaa.stepsI
    split
    · rename_i hg
      exact ih (h.stepI hg)
    · exact h

/-! ### the beginning -/
theorem beginI_get (s : List It) (i : Nat) : (beginI s)[i]? = (s[i]?).map fun x => if x.held = true ∧ x.st = 0 then x.setst 1 else x := by unfold beginI; rw [List.getElem?_map]
theorem MInv.begin_ (h : MInv kind false s) : MInv kind true (beginI s) := by
  have hsame : ∀ (i : Nat) (x x' : It), s[i]? = some x → (beginI s)[i]? = some x' → x'.has = x.has ∧ x'.held = x.held ∧ x'.st = if x.held = true ∧ x.st = 0 then 1 else x.st := by
    intro i x x' h1 h2
    rw [beginI_get, h1] at h2
    injection h2 with h2
    subst h2
    by_cases hc : x.held = true ∧ x.st = 0
    · simp only [if_pos hc]; exact ⟨rfl, rfl, rfl⟩
    · simp only [if_neg hc]; exact ⟨trivial, trivial, trivial⟩
  have hl : (beginI s).length = s.length := by simp [beginI]
  have hed := fun i k => recol_edge hl (fun i x x' h1 h2 => ⟨(hsame i x x' h1 h2).1, (hsame i x x' h1 h2).2.1⟩) i k
  refine h.recol hl (fun i x x' h1 h2 => ?_) (fun e => by cases e) (fun _ y hb => ?_)
  · obtain ⟨e1, e2, e3⟩ := hsame i x x' h1 h2
    refine ⟨e1, e2, ?_⟩
    have := h.rest rfl x (List.mem_of_getElem? h1)
    split at e3
    · rename_i e; rw [e3, e.2]; simp
    · rw [e3]; exact ⟨Iff.rfl, by omega⟩
  · exfalso
    obtain ⟨h0, hb⟩ := hb
    have hst : ∀ i v, stAt (beginI s) i = some v → ∃ x, s[i]? = some x ∧ v = if x.held = true ∧ x.st = 0 then 1 else x.st := by
      intro i v hv
      obtain ⟨x', h1, h2⟩ := get_stAt hv
      have hlt : i < s.length := by rw [← hl]; exact (List.getElem?_eq_some_iff.1 h1).1
      have h3 : s[i]? = some s[i] := List.getElem?_eq_getElem hlt
      exact ⟨_, h3, by rw [← h2]; exact (hsame i _ _ h3 h1).2.2⟩
    rcases hb with hb | ⟨x, h2, he⟩
    · obtain ⟨x, hx, hh⟩ := (hed y 0).2.1 hb
      obtain ⟨x2, hx2, e⟩ := hst y 0 h0
      rw [hx] at hx2; injection hx2 with hx2; subst hx2
      split at e
      · cases e
      · rename_i hn; exact hn ⟨hh, e.symm⟩
    · obtain ⟨x2, hx2, e⟩ := hst x 2 h2
      have := h.rest rfl x2 (List.mem_of_getElem? hx2)
      split at e <;> omega

/-! ### a new thing -/
theorem MInv.new_ (h : MInv kind mk s) {n : Int} (hs : s.length < 100) (hn : n ≤ 10) : MInv kind mk (s ++ [newI (if mk = true then 2 else 0) n]) := by
  have hlen : (newI (if mk = true then 2 else 0) n).has.length ≤ 10 := by simp [newI]; omega
  have hhas : ∀ k ∈ (newI (if mk = true then 2 else 0) n).has, k = -1 := fun k hk => by
    simp only [newI, List.mem_replicate] at hk; exact hk.2
  have hold : ∀ i, i < s.length → (s ++ [newI (if mk = true then 2 else 0) n])[i]? = s[i]? := fun i hi => List.getElem?_append_left hi
  have hst : ∀ i, i < s.length → stAt (s ++ [newI (if mk = true then 2 else 0) n]) i = stAt s i := fun i hi => by unfold stAt; rw [hold i hi]
  have hnew : (s ++ [newI (if mk = true then 2 else 0) n])[s.length]? = some (newI (if mk = true then 2 else 0) n) := by simp
  have hcase : ∀ i x, (s ++ [newI (if mk = true then 2 else 0) n])[i]? = some x → s[i]? = some x ∨ i = s.length ∧ x = newI (if mk = true then 2 else 0) n := by
    intro i x hi
    have hlt := (List.getElem?_eq_some_iff.1 hi).1
    rw [List.length_append, List.length_singleton] at hlt
    by_cases e : i < s.length
    · rw [hold i e] at hi; exact .inl hi
    · obtain rfl : i = s.length := by omega
      rw [hnew] at hi; injection hi with hi; exact .inr ⟨rfl, hi.symm⟩
  have hstc : ∀ i v, stAt (s ++ [newI (if mk = true then 2 else 0) n]) i = some v → stAt s i = some v ∨ i = s.length ∧ v = if mk = true then 2 else 0 := by
    intro i v hv
    obtain ⟨x, h1, h2⟩ := get_stAt hv
    rcases hcase i x h1 with h3 | ⟨h3, h4⟩
    · exact .inl (by rw [stAt_get h3, h2])
    · subst h4; exact .inr ⟨h3, h2.symm⟩
  have hedge : ∀ i k, edge (s ++ [newI (if mk = true then 2 else 0) n]) i k ↔ edge s i k := by
    intro i k
    constructor
    · rintro ⟨x, h1, h2⟩
      rcases hcase i x h1 with h3 | ⟨-, h4⟩
      · exact ⟨x, h3, h2⟩
      · subst h4; have := hhas _ h2; omega
    · rintro ⟨x, h1, h2⟩
      exact ⟨x, by rw [hold i (List.getElem?_eq_some_iff.1 h1).1]; exact h1, h2⟩
  have hmem : ∀ x, x ∈ s ++ [newI (if mk = true then 2 else 0) n] → x ∈ s ∨ x = newI (if mk = true then 2 else 0) n := by
    intro x hx; simpa using hx
  refine ⟨by simp; omega, fun x hx => ?_, fun x hx k hk => ?_, fun x hx => ?_, fun x hx h3 => ?_, fun hm x hx => ?_, fun hm y hb => ?_⟩
  · rcases hmem x hx with h1 | rfl
    · exact h.long x h1
    · exact hlen
  · rcases hmem x hx with h1 | rfl
    · rcases h.refs x h1 k hk with e | ⟨m, e, e2, e3⟩
      · exact .inl e
      · exact .inr ⟨m, e, by simp; omega, by rw [hst m e2]; exact e3⟩
    · exact .inl (hhas k hk)
  · rcases hmem x hx with h1 | rfl
    · exact h.sts x h1
    · unfold newI; cases mk <;> simp
  · rcases hmem x hx with h1 | rfl
    · exact h.gone x h1 h3
    · unfold newI at h3; cases mk <;> simp at h3
  · rcases hmem x hx with h1 | rfl
    · exact h.rest hm x h1
    · subst hm; left; rfl
  · obtain ⟨h0, hb⟩ := hb
    subst hm
    have h0s : stAt s y = some 0 := by
      rcases hstc y 0 h0 with h1 | ⟨-, h1⟩
      · exact h1
      · cases h1
    have hyl := stAt_lt h0s
    have hbad : Bad s y := by
      refine ⟨h0s, ?_⟩
      rcases hb with ⟨x, h1, h2⟩ | ⟨x, h1, h2⟩
      · left; rw [hold y hyl] at h1; exact ⟨x, h1, h2⟩
      · have he := (hedge x y).1 h2
        obtain ⟨z, hz, -⟩ := he
        rw [hst x (List.getElem?_eq_some_iff.1 hz).1] at h1
        exact .inr ⟨x, h1, (hedge x y).1 h2⟩
    obtain ⟨hk, hp⟩ := h.tri rfl y hbad
    refine ⟨hk, hp.keep (fun i hi => ?_) (fun i hi => ?_) (fun i k he _ => (hedge i k).2 he) h0⟩
    · left; rw [hst i (stAt_lt hi)]; exact hi
    · left; rw [hst i (stAt_lt hi)]; exact hi

/-! ### held, or not -/
theorem modify_mem {f : It → It} {n : Nat} {x' : It} (h : x' ∈ s.modify n f) : ∃ i x, s[i]? = some x ∧ (s.modify n f)[i]? = some x' ∧ x' = if n = i then f x else x := by
  obtain ⟨i, hi⟩ := List.mem_iff_getElem?.1 h
  have hi2 := hi
  rw [get_modify] at hi
  split at hi
  · rename_i e
    cases hs : s[i]? with
    | none => rw [hs] at hi; cases hi
    | some x => rw [hs] at hi; injection hi with hi; exact ⟨i, x, hs, hi2, by rw [if_pos e]; exact hi.symm⟩
  · rename_i e
    exact ⟨i, x', hi, hi2, by rw [if_neg e]⟩
theorem MInv.hold_ (h : MInv kind mk s) {n : Nat} {b : Bool} (hn3 : b = true → stAt s n ≠ some 3) (hn : b = true → mk = true → stAt s n = some 0 → kind = 2 ∧ Prot s n) : MInv kind mk (s.modify n (It.sethl b)) := by
  have hst : ∀ i, stAt (s.modify n (It.sethl b)) i = stAt s i := by
    intro i; unfold stAt; rw [get_modify]
    split
    · cases s[i]? <;> rfl
    · rfl
  have hed : ∀ i k, edge (s.modify n (It.sethl b)) i k ↔ edge s i k := by
    intro i k; unfold edge; rw [get_modify]
    split
    · cases s[i]? <;> simp [It.sethl]
    · exact Iff.rfl
  have hhl : ∀ i, heldAt (s.modify n (It.sethl b)) i → heldAt s i ∨ n = i ∧ b = true := by
    rintro i ⟨x', h1, h2⟩
    rw [get_modify] at h1
    split at h1
    · rename_i e
      cases hs : s[i]? with
      | none => rw [hs] at h1; cases h1
      | some x => rw [hs] at h1; injection h1 with h1; subst h1; exact .inr ⟨e, h2⟩
    · exact .inl ⟨x', h1, h2⟩
  have keep : ∀ y, stAt s y = some 0 → Prot s y → Prot (s.modify n (It.sethl b)) y := fun y h0 hp => hp.keep (fun i hi => .inl (by rw [hst]; exact hi)) (fun i hi => .inl (by rw [hst]; exact hi)) (fun i k he _ => (hed i k).2 he) (by rw [hst]; exact h0)
  refine ⟨by simpa using h.small, fun x' hx => ?_, fun x' hx k hk => ?_, fun x' hx => ?_, fun x' hx h3 => ?_, fun hm x' hx => ?_, fun hm y hb => ?_⟩
  · obtain ⟨i, x, h1, -, rfl⟩ := modify_mem hx
    have := h.long x (List.mem_of_getElem? h1)
    split <;> exact this
  · obtain ⟨i, x, h1, -, rfl⟩ := modify_mem hx
    have := h.refs x (List.mem_of_getElem? h1) k (by split at hk <;> exact hk)
    rcases this with e | ⟨m, e, e2, e3⟩
    · exact .inl e
    · exact .inr ⟨m, e, by simpa using e2, by rw [hst]; exact e3⟩
  · obtain ⟨i, x, h1, -, rfl⟩ := modify_mem hx
    have := h.sts x (List.mem_of_getElem? h1)
    split <;> exact this
  · obtain ⟨i, x, h1, -, rfl⟩ := modify_mem hx
    have h3' : x.st = 3 := by split at h3 <;> exact h3
    have hg := h.gone x (List.mem_of_getElem? h1) h3'
    split
    · rename_i e
      subst e
      refine ⟨hg.1, ?_⟩
      cases b with
      | false => rfl
      | true => exact absurd (by rw [stAt_get h1, h3']) (hn3 rfl)
    · exact hg
  · obtain ⟨i, x, h1, -, rfl⟩ := modify_mem hx
    have := h.rest hm x (List.mem_of_getElem? h1)
    split <;> exact this
  · obtain ⟨h0, hb⟩ := hb
    rw [hst] at h0
    rcases hb with hb | ⟨x, h2, he⟩
    · rcases hhl y hb with h1 | ⟨rfl, rfl⟩
      · obtain ⟨hk, hp⟩ := h.tri hm y ⟨h0, .inl h1⟩
        exact ⟨hk, keep y h0 hp⟩
      · obtain ⟨hk, hp⟩ := hn rfl hm h0
        exact ⟨hk, keep _ h0 hp⟩
    · obtain ⟨hk, hp⟩ := h.tri hm y ⟨h0, .inr ⟨x, by rw [← hst]; exact h2, (hed x y).1 he⟩⟩
      exact ⟨hk, keep y h0 hp⟩

/-! ### a place is set -/
theorem MInv.set_ (h : MInv kind mk s) {a j : Nat} {v : Int} {old : Int} (hold : ∃ x, s[a]? = some x ∧ x.has[j]? = some old) (hv : v = -1 ∨ ∃ m : Nat, v = (m : Int) ∧ m < s.length ∧ stAt s m ≠ some 3)
    (hw : mk = true → kind = 2 → ∀ m : Nat, old = (m : Int) → stAt s m ≠ some 0) (hn : mk = true → ∀ m : Nat, v = (m : Int) → stAt s m = some 0 → kind = 2 ∧ Prot s m) : MInv kind mk (s.modify a (It.sethas j v)) := by
  have hst : ∀ i, stAt (s.modify a (It.sethas j v)) i = stAt s i := by
    intro i; unfold stAt; rw [get_modify]
    split
    · cases s[i]? <;> rfl
    · rfl
  have hhl : ∀ i, heldAt (s.modify a (It.sethas j v)) i → heldAt s i := by
    rintro i ⟨x', h1, h2⟩
    rw [get_modify] at h1
    split at h1
    · cases hs : s[i]? with
      | none => rw [hs] at h1; cases h1
      | some x => rw [hs] at h1; injection h1 with h1; subst h1; exact ⟨x, hs, h2⟩
    · exact ⟨x', h1, h2⟩
  have hed : ∀ i k, edge (s.modify a (It.sethas j v)) i k → edge s i k ∨ v = (k : Int) := by
    rintro i k ⟨x', h1, h2⟩
    rw [get_modify] at h1
    split at h1
    · cases hs : s[i]? with
      | none => rw [hs] at h1; cases h1
      | some x =>
        rw [hs] at h1; injection h1 with h1; subst h1
        rcases List.mem_or_eq_of_mem_set h2 with h3 | h3
        · exact .inl ⟨x, hs, h3⟩
        · exact .inr h3.symm
    · exact .inl ⟨x', h1, h2⟩
  obtain ⟨xa, hxa, hxo⟩ := hold
  have hed2 : ∀ i k, edge s i k → (k : Int) ≠ old → edge (s.modify a (It.sethas j v)) i k := by
    rintro i k ⟨x, h1, h2⟩ hne
    unfold edge
    rw [get_modify, h1]
    split
    · rename_i e
      subst e
      rw [h1] at hxa; injection hxa with hxa; subst hxa
      refine ⟨_, rfl, ?_⟩
      obtain ⟨q, hq⟩ := List.mem_iff_getElem?.1 h2
      have hqj : j ≠ q := fun e => by subst e; rw [hxo] at hq; injection hq with hq; exact hne hq.symm
      show (k : Int) ∈ x.has.set j v
      exact List.mem_of_getElem? (i := q) (by rw [List.getElem?_set_ne hqj]; exact hq)
    · exact ⟨x, rfl, h2⟩
  have keep : mk = true → kind = 2 → ∀ y, stAt s y = some 0 → Prot s y → Prot (s.modify a (It.sethas j v)) y := fun hm hk y h0 hp =>
    hp.keep (fun i hi => .inl (by rw [hst]; exact hi)) (fun i hi => .inl (by rw [hst]; exact hi)) (fun i k he h0' => hed2 i k he (fun e => hw hm hk k e.symm (by rw [← hst]; exact h0'))) (by rw [hst]; exact h0)
  refine ⟨by simpa using h.small, fun x' hx => ?_, fun x' hx k hk => ?_, fun x' hx => ?_, fun x' hx h3 => ?_, fun hm x' hx => ?_, fun hm y hb => ?_⟩
  · obtain ⟨i, x, h1, -, rfl⟩ := modify_mem hx
    have := h.long x (List.mem_of_getElem? h1)
    split
    · simpa [It.sethas] using this
    · exact this
  · obtain ⟨i, x, h1, -, rfl⟩ := modify_mem hx
    have hc : k ∈ x.has ∨ k = v := by
      split at hk
      · exact List.mem_or_eq_of_mem_set hk
      · exact .inl hk
    rcases hc with hc | rfl
    · rcases h.refs x (List.mem_of_getElem? h1) k hc with e | ⟨m, e, e2, e3⟩
      · exact .inl e
      · exact .inr ⟨m, e, by simpa using e2, by rw [hst]; exact e3⟩
    · rcases hv with e | ⟨m, e, e2, e3⟩
      · exact .inl e
      · exact .inr ⟨m, e, by simpa using e2, by rw [hst]; exact e3⟩
  · obtain ⟨i, x, h1, -, rfl⟩ := modify_mem hx
    have := h.sts x (List.mem_of_getElem? h1)
    split <;> exact this
  · obtain ⟨i, x, h1, -, rfl⟩ := modify_mem hx
    have h3' : x.st = 3 := by split at h3 <;> exact h3
    have hg := h.gone x (List.mem_of_getElem? h1) h3'
    split
    · refine ⟨?_, hg.2⟩
      simp [It.sethas, hg.1]
    · exact hg
  · obtain ⟨i, x, h1, -, rfl⟩ := modify_mem hx
    have := h.rest hm x (List.mem_of_getElem? h1)
    split <;> exact this
  · obtain ⟨h0, hb⟩ := hb
    rw [hst] at h0
    have hc : (Bad s y) ∨ v = (y : Int) := by
      rcases hb with hb | ⟨x, h2, he⟩
      · exact .inl ⟨h0, .inl (hhl y hb)⟩
      · rcases hed x y he with h1 | h1
        · exact .inl ⟨h0, .inr ⟨x, by rw [← hst]; exact h2, h1⟩⟩
        · exact .inr h1
    have hp : kind = 2 ∧ Prot s y := by
      rcases hc with hc | hc
      · exact h.tri hm y hc
      · exact hn hm y hc h0
    exact ⟨hp.1, keep hm hp.1 y h0 hp.2⟩

/-! ### the end -/
def clearL (l : List Int) (x : It) : It := { x with has := x.has.map fun k => if l.contains k = true then -1 else k }
def goneI (l : List Int) (v : Int) (s : List It) : List It := (s.mapIdx fun i x => if l.contains (i : Int) = true then ⟨[], v, false⟩ else x).map (clearL l)
theorem are_contains (s : List It) (v : Int) (i : Nat) : (are s v).contains (i : Int) = true ↔ stAt s i = some v := by
  rw [List.contains_iff_mem]
  unfold are
  rw [mem_rising]
  constructor
  · rintro ⟨n, e, h⟩
    obtain rfl : i = n := by omega
    rw [List.getElem?_map] at h
    cases hs : s[i]? with
    | none => rw [hs] at h; cases h
    | some x => rw [hs] at h; injection h with h; rw [stAt_get hs, of_decide_eq_true h]
  · intro h
    obtain ⟨x, h1, h2⟩ := get_stAt h
    exact ⟨i, rfl, by rw [List.getElem?_map, h1]; simp [h2]⟩
/-- nothing is grey: what goes is had by nobody that stays -/
theorem MInv.noBad (h : MInv kind true s) (hg : ¬ greyAt s < s.length) (y : Nat) : ¬ Bad s y := by
  intro hb
  obtain ⟨i, hi⟩ := (h.tri rfl y hb).2.grey
  exact greyAt_none hg i hi
def whiten (x : It) : It := if x.st = 2 then x.setst 0 else x
theorem MInv.sweep_eq (h : MInv kind true s) (hg : ¬ greyAt s < s.length) : goneI (are s 0) 3 (s.map whiten) = s.map sweep1 := by
  apply List.ext_getElem?
  intro i
  unfold goneI
  rw [List.getElem?_map, List.getElem?_mapIdx, List.getElem?_map, List.getElem?_map]
  cases hs : s[i]? with
  | none => rfl
  | some x =>
    simp only [Option.map_some]
    congr 1
    have hst := stAt_get hs
    have hm := List.mem_of_getElem? hs
    have h1 : x.st ≠ 1 := fun e => greyAt_none hg i (by rw [hst, e])
    rcases h.sts x hm with h0 | h0 | h0 | h0
    · rw [if_pos ((are_contains s 0 i).2 (by rw [hst, h0]))]
      unfold sweep1 clearL
      rw [if_pos h0]; rfl
    · exact absurd h0 h1
    · rw [if_neg (by rw [are_contains, hst, h0]; simp)]
      have hw : whiten x = x.setst 0 := if_pos h0
      have hsw : sweep1 x = x.setst 0 := by unfold sweep1; rw [if_neg (by omega), if_pos h0]
      rw [hw, hsw]
      unfold clearL
      have : (x.has.map fun k => if (are s 0).contains k = true then -1 else k) = x.has := by
        rw [List.map_congr_left (g := id)]
        · simp
        · intro k hk
          rw [if_neg]
          · rfl
          · intro hc
            rw [List.contains_iff_mem] at hc
            unfold are at hc
            obtain ⟨n, rfl, -⟩ := (mem_rising _ _).1 hc
            have hc2 : (are s 0).contains (n : Int) = true := by rw [List.contains_iff_mem]; exact hc
            exact h.noBad hg n ⟨(are_contains s 0 n).1 hc2, .inr ⟨i, by rw [hst, h0], x, hs, hk⟩⟩
      simp only [It.setst, this]
    · rw [if_neg (by rw [are_contains, hst, h0]; simp)]
      have hw : whiten x = x := if_neg (by omega)
      have hsw : sweep1 x = x := by unfold sweep1; rw [if_neg (by omega), if_neg (by omega)]
      rw [hw, hsw]
      unfold clearL
      have hg0 := (h.gone x hm h0).1
      cases x
      simp only at hg0
      subst hg0
      rfl
theorem MInv.sweep (h : MInv kind true s) (hg : ¬ greyAt s < s.length) : MInv kind false (s.map sweep1) := by
  have hst : ∀ i, stAt (s.map sweep1) i = some 3 → stAt s i = some 0 ∨ stAt s i = some 3 := by
    intro i hi
    unfold stAt at hi
    rw [List.getElem?_map] at hi
    cases hs : s[i]? with
    | none => rw [hs] at hi; cases hi
    | some x =>
      rw [hs] at hi
      injection hi with hi
      rw [stAt_get hs]
      unfold sweep1 at hi
      split at hi
      · rename_i e; rw [e]; exact .inl rfl
      · split at hi
        · cases hi
        · rw [hi]; exact .inr rfl
  have h1 : ∀ x ∈ s, x.st ≠ 1 := fun x hx e => by
    obtain ⟨i, hi⟩ := List.mem_iff_getElem?.1 hx
    exact greyAt_none hg i (by rw [stAt_get hi, e])
  have hall : ∀ x' ∈ s.map sweep1, ∃ (i : Nat) (x : It), s[i]? = some x ∧ x' = sweep1 x := by
    intro x' hx'
    obtain ⟨x, hx, rfl⟩ := List.mem_map.1 hx'
    obtain ⟨i, hi⟩ := List.mem_iff_getElem?.1 hx
    exact ⟨i, x, hi, rfl⟩
  refine ⟨by simpa using h.small, fun x' hx => ?_, fun x' hx k hk => ?_, fun x' hx => ?_, fun x' hx h3 => ?_, fun _ x' hx => ?_, fun e => by cases e⟩
  · obtain ⟨i, x, hi, rfl⟩ := hall x' hx
    have := h.long x (List.mem_of_getElem? hi)
    unfold sweep1
    split
    · simp
    · split <;> exact this
  · obtain ⟨i, x, hi, rfl⟩ := hall x' hx
    have hm := List.mem_of_getElem? hi
    unfold sweep1 at hk
    split at hk
    · simp at hk
    · rename_i h0
      have hk' : k ∈ x.has := by split at hk <;> exact hk
      rcases h.refs x hm k hk' with e | ⟨m, e, e2, e3⟩
      · exact .inl e
      · refine .inr ⟨m, e, by simpa using e2, fun h3 => ?_⟩
        rcases hst m h3 with h4 | h4
        · have h2 : x.st = 2 := by
            rcases h.sts x hm with h5 | h5 | h5 | h5
            · exact absurd h5 h0
            · exact absurd h5 (h1 x hm)
            · exact h5
            · rw [(h.gone x hm h5).1] at hk'; simp at hk'
          exact h.noBad hg m ⟨h4, .inr ⟨i, by rw [stAt_get hi, h2], x, hi, by rw [← e]; exact hk'⟩⟩
        · exact e3 h4
  · obtain ⟨i, x, hi, rfl⟩ := hall x' hx
    have := h.sts x (List.mem_of_getElem? hi)
    unfold sweep1
    split
    · simp
    · split
      · simp [It.setst]
      · exact this
  · obtain ⟨i, x, hi, rfl⟩ := hall x' hx
    unfold sweep1 at h3 ⊢
    split
    · exact ⟨rfl, rfl⟩
    · rename_i h0
      rw [if_neg h0] at h3
      split
      · rename_i h2; rw [if_pos h2] at h3; simp [It.setst] at h3
      · rename_i h2; rw [if_neg h2] at h3; exact h.gone x (List.mem_of_getElem? hi) h3
  · obtain ⟨i, x, hi, rfl⟩ := hall x' hx
    have hm := List.mem_of_getElem? hi
    have := h.sts x hm
    have := h1 x hm
    unfold sweep1
    split
    · exact .inr rfl
    · split
      · exact .inl rfl
      · right; omega
end

end Go.Proofs.Ytpkccpegdpodoaa

/- Things in a row of the call's own, each with a row of places of its own: read, stored into; what a deed touches. -/
namespace Go.Proofs.Ytpkccpegdpodoaa
open Go.RowKit

/-- a thing as it lies: where its places are -/
structure ItR where
  A : Option Addr
  c : Nat
  has : List Int
  st : Int
  held : Bool
instance : Flat ItR where
  cells x := [.slice x.A x.has.length x.c, .int .i64 x.st, .bool x.held]
  sz := 3
  len _ := rfl
  ok _ := True
def ItR.it (x : ItR) : It := ⟨x.has, x.st, x.held⟩
theorem itr_one : ∀ x : ItR, ∀ u ∈ Flat.cells x, u.oneCell' = true := by
  intro x u hu
  simp only [Flat.cells, List.mem_cons, List.not_mem_nil, or_false] at hu
  rcases hu with rfl | rfl | rfl <;> rfl

/-- all but the blocks of F is as it was -/
structure Touch (F : Nat → Prop) (w w' : World) : Prop where
  os : w'.os = w.os
  tape : w'.tape = w.tape
  output : w'.output = w.output
  size : w.heap.size ≤ w'.heap.size
  block : ∀ g, g < w.heap.size → ¬ F g → w'.heap[g]? = w.heap[g]?

section
variable {F F' : Nat → Prop} {w w1 w' : World} {base : Nat}
theorem Touch.refl (F : Nat → Prop) (w : World) : Touch F w w := ⟨rfl, rfl, rfl, Nat.le_refl _, fun _ _ _ => rfl⟩
theorem Touch.trans (h : Touch F w w1) (h' : Touch F w1 w') : Touch F w w' :=
  ⟨h'.os.trans h.os, h'.tape.trans h.tape, h'.output.trans h.output, Nat.le_trans h.size h'.size, fun g hg hF => (h'.block g (Nat.lt_of_lt_of_le hg h.size) hF).trans (h.block g hg hF)⟩
theorem Touch.mono (h : Touch F w w') (hF : ∀ g, g < w.heap.size → F g → F' g) : Touch F' w w' := ⟨h.os, h.tape, h.output, h.size, fun g hg hn => h.block g hg (fun h1 => hn (hF g hg h1))⟩
theorem Touch.ofBelow (h : Below w.heap.size w w') : Touch F w w' := ⟨h.os, h.tape, h.output, h.size, fun g hg _ => h.block g hg⟩
theorem Touch.below (h : Touch F w w') (hF : ∀ g, F g → base ≤ g) (hb : base ≤ w.heap.size) : Below base w w' := ⟨h.os, h.tape, h.output, h.size, fun g hg => h.block g (by omega) (fun h1 => by have := hF g h1; omega)⟩
theorem Touch.setCell (h : Touch F w w1) {p : Addr} (hp : F p.block) (u : Value) : Touch F w (w1.setCell p u) :=
  ⟨h.os, h.tape, h.output, by have := h.size; simp [World.setCell]; exact this, fun g hg hF => (Below.heap_setCell _ _ _ _ (fun e => hF (by rw [e]; exact hp))).trans (h.block g hg hF)⟩
theorem Touch.alloc (h : Touch F w w1) (o : Obj) : Touch F w (w1.alloc o) :=
  ⟨h.os, h.tape, h.output, by have := h.size; simp; omega, fun g hg hF => (Below.heap_alloc w1 o g (by have := h.size; omega)).trans (h.block g hg hF)⟩
theorem Touch.drew (h : Touch F w w1) : Touch F w w1.drew := ⟨h.os, h.tape, h.output, h.size, h.block⟩
theorem Touch.drewN (h : Touch F w w1) (n : Nat) : Touch F w (w1.drewN n) := ⟨h.os, h.tape, h.output, h.size, h.block⟩
theorem Touch.grown (h : Touch F w w1) {row : Option Nat} (hg : w1.grownBy w' row) (hr : ∀ g, row = some g → F g) : Touch F w w' :=
  ⟨hg.os.trans h.os, hg.tape.trans h.tape, hg.output.trans h.output, Nat.le_trans h.size hg.size, fun g hl hF => (hg.block g (by have := h.size; omega) (fun e => hF (hr g e.symm))).trans (h.block g hl hF)⟩
theorem Touch.setRow (h : Touch F w w1) {g : Nat} (hp : F g) (cs : Array Value) : Touch F w (w1.setRow g cs) :=
  ⟨h.os, h.tape, h.output, by have := h.size; simp; exact this, fun k hg hF => (setRow_other w1 g k cs (fun e => hF (by rw [e]; exact hp))).trans (h.block k hg hF)⟩
theorem Touch.fresh (h : Touch F w w1) (hb : Below w1.heap.size w1 w') : Touch F w w' := h.trans (Touch.ofBelow hb)
end

/-- F and the blocks that came between two worlds -/
def Up (F : Nat → Prop) (w w' : World) (g : Nat) : Prop := F g ∨ w.heap.size ≤ g ∧ g < w'.heap.size
theorem Up.old {F : Nat → Prop} {w w' : World} {g : Nat} (h : F g) : Up F w w' g := .inl h
theorem Up.more {F : Nat → Prop} {w w1 w' : World} (h : w1.heap.size ≤ w'.heap.size) {g : Nat} (hg : Up F w w1 g) : Up F w w' g := hg.elim .inl fun h1 => .inr ⟨h1.1, by omega⟩

/-- THINGS: the slice (A, length, c) of type T, in blocks of F from base on -/
structure Its (w : World) (base : Nat) (F : Nat → Prop) (T : TypeId) (A : Option Addr) (c : Nat) (l : List ItR) : Prop where
  row : Own w base T A c l
  foot : ∀ g, rowOf A = some g → F g
  sub : ∀ (i : Nat) (x : ItR), l[i]? = some x → Own w base 3 x.A x.c x.has ∧ (∀ g, rowOf x.A = some g → F g) ∧ (∀ k ∈ x.has, I64 k) ∧ I64 x.st
  apart : ∀ (i j : Nat) (x y : ItR), i ≠ j → l[i]? = some x → l[j]? = some y → ∀ g, rowOf x.A = some g → rowOf y.A ≠ some g

section
variable {w w' : World} {base : Nat} {F F' : Nat → Prop} {T : TypeId} {A : Option Addr} {c : Nat} {l : List ItR}
theorem Its.keep (h : Its w base F T A c l) (hk : ∀ g, F g → g < w.heap.size → w'.heap[g]? = w.heap[g]?) : Its w' base F T A c l :=
  ⟨h.row.block_ (fun g hg => hk g (h.foot g hg) (h.row.lt g hg).2), h.foot, fun i x hx => ⟨(h.sub i x hx).1.block_ (fun g hg => hk g ((h.sub i x hx).2.1 g hg) ((h.sub i x hx).1.lt g hg).2), (h.sub i x hx).2⟩, h.apart⟩
theorem Its.mono (h : Its w base F T A c l) (hF : ∀ g, F g → F' g) : Its w base F' T A c l :=
  ⟨h.row, fun g hg => hF g (h.foot g hg), fun i x hx => ⟨(h.sub i x hx).1, fun g hg => hF g ((h.sub i x hx).2.1 g hg), (h.sub i x hx).2.2⟩, h.apart⟩
theorem Its.fresh (h : Its w base F T A c l) (hb : Below w.heap.size w w') : Its w' base F T A c l := h.keep fun g _ hg => hb.block g hg
theorem Its.alloc (h : Its w base F T A c l) (o : Obj) : Its (w.alloc o) base F T A c l := h.keep fun g _ hg => Below.heap_alloc w o g hg
theorem Its.drew (h : Its w base F T A c l) : Its w.drew base F T A c l := h.keep fun _ _ _ => rfl
theorem Its.drewN (h : Its w base F T A c l) (n : Nat) : Its (w.drewN n) base F T A c l := h.keep fun _ _ _ => rfl
theorem Its.far (h : Its w base F T A c l) {p : Addr} (hp : ¬ F p.block) (u : Value) : Its (w.setCell p u) base F T A c l := h.keep fun g hg _ => Below.heap_setCell _ _ _ _ (fun e => hp (by rw [← e]; exact hg))
theorem Its.touch (h : Its w base F T A c l) {G : Nat → Prop} (ht : Touch G w w') (hd : ∀ g, F g → ¬ G g) : Its w' base F T A c l := h.keep fun g hg hl => ht.block g hl (hd g hg)
/-- a store into a block that holds no thing's places, and is not the row -/
theorem Its.other (h : Its w base F T A c l) {p : Addr} (h1 : rowOf A ≠ some p.block) (h2 : ∀ (i : Nat) (x : ItR), l[i]? = some x → rowOf x.A ≠ some p.block) (u : Value) : Its (w.setCell p u) base F T A c l :=
  ⟨h.row.setCell p u h1, h.foot, fun i x hx => ⟨(h.sub i x hx).1.setCell p u (h2 i x hx), (h.sub i x hx).2⟩, h.apart⟩
theorem Its.row_ne (h : Its w base F T A c l) (hT : T ≠ 3) {i : Nat} {x : ItR} (hx : l[i]? = some x) : ∀ g, rowOf A = some g → rowOf x.A ≠ some g := own_own_ty h.row (h.sub i x hx).1 hT
/-- a block known whole of another type is none of them -/
theorem Its.far_blk (h : Its w base F T A c l) {g : Nat} {t : TypeId} {cs : Array Value} (hg : Blk w g t cs) (h1 : T ≠ t) (h2 : 3 ≠ t) (i : Nat) (u : Value) : Its (w.setCell ⟨g, i, none⟩ u) base F T A c l :=
  h.other (own_ne_ty h.row hg h1) (fun _ _ hx => own_ne_ty (h.sub _ _ hx).1 hg h2) u
theorem Its.cells (h : Its w base F T A c l) {i : Nat} {x : ItR} (hx : l[i]? = some x) :
    ∃ g, A = some ⟨g, 0, none⟩ ∧ base ≤ g ∧ g < w.heap.size ∧ w.cell? ⟨g, i * 3, none⟩ = some (.slice x.A x.has.length x.c) ∧ w.cell? ⟨g, i * 3 + 1, none⟩ = some (.int .i64 x.st) ∧ w.cell? ⟨g, i * 3 + 2, none⟩ = some (.bool x.held) := by
  have hi : i < l.length := (List.getElem?_eq_some_iff.1 hx).1
  obtain ⟨g, rfl, h1, h2⟩ := h.row.some_ (by omega)
  have hc := h.row.cells_ (g := g) (o := 0) rfl
  have e0 := hc (i * 3 + 0) _ (flat_get l i 0 x hx (by decide))
  have e1 := hc (i * 3 + 1) _ (flat_get l i 1 x hx (by decide))
  have e2 := hc (i * 3 + 2) _ (flat_get l i 2 x hx (by decide))
  simp only [Nat.zero_add, Nat.add_zero] at e0 e1 e2
  exact ⟨g, rfl, h1, h2, e0, e1, e2⟩
theorem set_case {α : Type} {l : List α} {i k : Nat} {x y : α} (hk : (l.set i x)[k]? = some y) : k = i ∧ i < l.length ∧ y = x ∨ k ≠ i ∧ l[k]? = some y := by
  rw [List.getElem?_set] at hk
  split at hk
  · rename_i e
    split at hk
    · rename_i hl; injection hk with hk; exact .inl ⟨e.symm, hl, hk.symm⟩
    · cases hk
  · rename_i e; exact .inr ⟨fun h => e h.symm, hk⟩
/-- the row has another element; its places are where they were -/
theorem Its.put {g i : Nat} {x y : ItR} (h : Its w base F T (some ⟨g, 0, none⟩) c l) (hx : l[i]? = some x) (hT : T ≠ 3) (hrow : Own w' base T (some ⟨g, 0, none⟩) c (l.set i y)) (hoth : ∀ k, k ≠ g → w'.heap[k]? = w.heap[k]?) (hA : y.A = x.A ∨ y.A = none) (hsub : Own w base 3 y.A y.c y.has)
    (hk : ∀ k ∈ y.has, I64 k) (hst : I64 y.st) : Its w' base F T (some ⟨g, 0, none⟩) c (l.set i y) := by
  have hfoot : ∀ k, rowOf y.A = some k → rowOf x.A = some k := by
    intro k hy
    rcases hA with e | e
    · rw [← e]; exact hy
    · rw [e] at hy; cases hy
  refine ⟨hrow, h.foot, fun j z hz => ?_, fun a b z1 z2 hab h1 h2 => ?_⟩
  · rcases set_case hz with ⟨rfl, hl, rfl⟩ | ⟨hne, hz⟩
    · exact ⟨hsub.block_ (fun k hk2 => hoth k (fun e => h.row_ne hT hx g rfl (by rw [hfoot k hk2, e]))), fun k hk2 => (h.sub _ x hx).2.1 k (hfoot k hk2), hk, hst⟩
    · exact ⟨(h.sub j z hz).1.block_ (fun k hk2 => hoth k (fun e => h.row_ne hT hz g rfl (by rw [hk2, e]))), (h.sub j z hz).2⟩
  · intro k hk1
    rcases set_case h1 with ⟨rfl, _, rfl⟩ | ⟨hne1, q1⟩
    · rcases set_case h2 with ⟨rfl, _, rfl⟩ | ⟨hne2, q2⟩
      · exact absurd rfl hab
      · exact h.apart _ b x z2 (fun e => hne2 e.symm) hx q2 k (hfoot k hk1)
    · rcases set_case h2 with ⟨rfl, _, rfl⟩ | ⟨hne2, q2⟩
      · exact fun hy => h.apart a _ z1 x hne1 q1 hx k hk1 (hfoot k hy)
      · exact h.apart a b z1 z2 hab q1 q2 k hk1
theorem Its.setSt {g i : Nat} {x : ItR} (h : Its w base F T (some ⟨g, 0, none⟩) c l) (hx : l[i]? = some x) (hT : T ≠ 3) (v : Int) (hv : I64 v) :
    Its (w.setCell ⟨g, i * 3 + 1, none⟩ (.int .i64 v)) base F T (some ⟨g, 0, none⟩) c (l.set i { x with st := v }) :=
  h.put (y := { x with st := v }) hx hT (h.row.set_ (j := 1) (u := .int .i64 v) rfl hx (by decide) rfl) (fun k hk => Below.heap_setCell _ _ _ _ hk) (.inl rfl) (h.sub i x hx).1 (h.sub i x hx).2.2.1 hv
theorem Its.setHeld {g i : Nat} {x : ItR} (h : Its w base F T (some ⟨g, 0, none⟩) c l) (hx : l[i]? = some x) (hT : T ≠ 3) (b : Bool) :
    Its (w.setCell ⟨g, i * 3 + 2, none⟩ (.bool b)) base F T (some ⟨g, 0, none⟩) c (l.set i { x with held := b }) :=
  h.put (y := { x with held := b }) hx hT (h.row.set_ (j := 2) (u := .bool b) rfl hx (by decide) rfl) (fun k hk => Below.heap_setCell _ _ _ _ hk) (.inl rfl) (h.sub i x hx).1 (h.sub i x hx).2.2.1 (h.sub i x hx).2.2.2
/-- a thing that is gone -/
theorem Its.setGone {g i : Nat} {x : ItR} (h : Its w base F T (some ⟨g, 0, none⟩) c l) (hx : l[i]? = some x) (hT : T ≠ 3) (v : Int) (hv : I64 v) :
    Its (((w.setCell ⟨g, i * 3, none⟩ (.slice none 0 0)).setCell ⟨g, i * 3 + 1, none⟩ (.int .i64 v)).setCell ⟨g, i * 3 + 2, none⟩ (.bool false)) base F T (some ⟨g, 0, none⟩) c (l.set i ⟨none, 0, [], v, false⟩) := by
  have hi : i < l.length := (List.getElem?_eq_some_iff.1 hx).1
  have h1 := h.row.set_ (j := 0) (y := (⟨none, 0, [], x.st, x.held⟩ : ItR)) (u := .slice none 0 0) rfl hx (by decide) rfl
  have h2 := h1.set_ (i := i) (j := 1) (x := (⟨none, 0, [], x.st, x.held⟩ : ItR)) (y := (⟨none, 0, [], v, x.held⟩ : ItR)) (u := .int .i64 v) rfl (by rw [List.getElem?_set_self hi]) (by decide) rfl
  have h3 := h2.set_ (i := i) (j := 2) (x := (⟨none, 0, [], v, x.held⟩ : ItR)) (y := (⟨none, 0, [], v, false⟩ : ItR)) (u := .bool false) rfl (by rw [List.set_set, List.getElem?_set_self hi]) (by decide) rfl
  rw [List.set_set, List.set_set] at h3
  exact h.put (y := ⟨none, 0, [], v, false⟩) hx hT h3 (fun k hk => by rw [Below.heap_setCell _ _ _ _ hk, Below.heap_setCell _ _ _ _ hk, Below.heap_setCell _ _ _ _ hk]) (.inr rfl) Own.nil_ (by simp) hv
/-- a place is set -/
theorem Its.setHas {g i j : Nat} {x : ItR} (h : Its w base F T A c l) (hx : l[i]? = some x) (hT : T ≠ 3) (hA : x.A = some ⟨g, 0, none⟩) (hj : j < x.has.length) (v : Int) (hv : I64 v) :
    Its (w.setCell ⟨g, j, none⟩ (.int .i64 v)) base F T A c (l.set i { x with has := x.has.set j v }) := by
  have hi : i < l.length := (List.getElem?_eq_some_iff.1 hx).1
  have hxs := h.sub i x hx
  have hrowne : rowOf A ≠ some g := fun e => h.row_ne hT hx g e (by rw [hA]; rfl)
  have hsame : flat (l.set i { x with has := x.has.set j v }) = flat l := by
    have := flat_set l i x 1 (.int .i64 x.st) { x with has := x.has.set j v } hx (by decide) (by simp [Flat.cells])
    rw [← this]
    have hg := flat_get l i 1 x hx (by decide)
    apply List.ext_getElem?
    intro k
    rw [List.getElem?_set]
    split
    · rename_i e
      subst e
      rw [hg]
      have := (List.getElem?_eq_some_iff.1 (hg.trans (by rfl : (Flat.cells x)[1]? = some (.int .i64 x.st)))).1
      rw [if_pos this]; rfl
    · rfl
  refine ⟨?_, h.foot, fun k z hz => ?_, fun a b z1 z2 hab h1 h2 => ?_⟩
  · have := h.row.setCell ⟨g, j, none⟩ (.int .i64 v) hrowne
    unfold Own at this ⊢
    rw [List.length_set, hsame]
    exact this
  · rcases set_case hz with ⟨rfl, _, rfl⟩ | ⟨hne, hz⟩
    · refine ⟨?_, hxs.2.1, fun k hk => ?_, hxs.2.2.2⟩
      · have h0 := hxs.1
        simp only [hA] at h0 ⊢
        exact h0.set_int v hj
      · rcases List.mem_or_eq_of_mem_set hk with e | e
        · exact hxs.2.2.1 k e
        · rw [e]; exact hv
    · refine ⟨(h.sub k z hz).1.setCell _ _ (fun e => h.apart k i z x hne hz hx g e (by rw [hA]; rfl)), (h.sub k z hz).2⟩
  · intro q hq
    rcases set_case h1 with ⟨rfl, _, rfl⟩ | ⟨hne1, q1⟩
    · rcases set_case h2 with ⟨rfl, _, rfl⟩ | ⟨hne2, q2⟩
      · exact absurd rfl hab
      · exact h.apart _ b x z2 (fun e => hne2 e.symm) hx q2 q hq
    · rcases set_case h2 with ⟨rfl, _, rfl⟩ | ⟨hne2, q2⟩
      · exact h.apart a _ z1 x hne1 q1 hx q hq
      · exact h.apart a b z1 z2 hab q1 q2 q hq
/-- one more thing -/
theorem Its.push {A' : Option Addr} {c' : Nat} {y : ItR} (h : Its w base F T A c l) (hT : T ≠ 3) (hrow : Own w' base T A' c' (l ++ [y])) (hg : w.grownBy w' (rowOf A)) (_hat : rowOf A' = rowOf A ∨ rowOf A' = some w.heap.size) (hF : ∀ g, F g → F' g)
    (hnew : ∀ g, rowOf A' = some g → F' g) (hy : Own w base 3 y.A y.c y.has) (hyF : ∀ g, rowOf y.A = some g → F' g ∧ ¬ F g) (hk : ∀ k ∈ y.has, I64 k) (hst : I64 y.st) : Its w' base F' T A' c' (l ++ [y]) := by
  have case_ : ∀ {i : Nat} {x : ItR}, (l ++ [y])[i]? = some x → l[i]? = some x ∨ i = l.length ∧ x = y := by
    intro i x hi
    have hlt := (List.getElem?_eq_some_iff.1 hi).1
    rw [List.length_append, List.length_singleton] at hlt
    by_cases e : i < l.length
    · rw [List.getElem?_append_left e] at hi; exact .inl hi
    · obtain rfl : i = l.length := by omega
      simp at hi; exact .inr ⟨rfl, hi.symm⟩
  have grow : ∀ {z : ItR}, Own w base 3 z.A z.c z.has → Own w' base 3 z.A z.c z.has := fun {z} hz => hz.grown hg (fun g hg' e => own_own_ty h.row hz hT g e hg')
  refine ⟨hrow, hnew, fun i x hx => ?_, fun i j a b hij h1 h2 g hg1 hg2 => ?_⟩
  · rcases case_ hx with hx | ⟨-, rfl⟩
    · exact ⟨grow (h.sub i x hx).1, fun g hg' => hF g ((h.sub i x hx).2.1 g hg'), (h.sub i x hx).2.2⟩
    · exact ⟨grow hy, fun g hg' => (hyF g hg').1, hk, hst⟩
  · rcases case_ h1 with q1 | ⟨e1, rfl⟩
    · rcases case_ h2 with q2 | ⟨e2, rfl⟩
      · exact h.apart i j a b hij q1 q2 g hg1 hg2
      · exact (hyF g hg2).2 ((h.sub i a q1).2.1 g hg1)
    · rcases case_ h2 with q2 | ⟨e2, rfl⟩
      · exact (hyF g hg1).2 ((h.sub j b q2).2.1 g hg2)
      · omega
theorem Its.nil_ (w : World) (base : Nat) (F : Nat → Prop) (T : TypeId) : Its w base F T none 0 [] := ⟨Own.nil_, fun g h => (by cases h), fun i x h => (by simp at h), fun i j x y _ h => (by simp at h)⟩
end

/-! ### what things are -/
def its (l : List ItR) : List It := l.map ItR.it
theorem its_length (l : List ItR) : (its l).length = l.length := by simp [its]
theorem its_get {l : List ItR} {i : Nat} {x : ItR} (h : l[i]? = some x) : (its l)[i]? = some x.it := by unfold its; rw [List.getElem?_map, h]; rfl
theorem get_its {l : List ItR} {i : Nat} {y : It} (h : (its l)[i]? = some y) : ∃ x, l[i]? = some x ∧ x.it = y := by
  unfold its at h
  rw [List.getElem?_map] at h
  cases hs : l[i]? with
  | none => rw [hs] at h; cases h
  | some x => rw [hs] at h; injection h with h; exact ⟨x, rfl, h⟩
theorem its_set (l : List ItR) (i : Nat) (x y : ItR) (f : It → It) (hx : l[i]? = some x) (hf : y.it = f x.it) : its (l.set i y) = (its l).modify i f := by
  apply List.ext_getElem?
  intro j
  rw [get_modify]
  unfold its
  rw [List.getElem?_map, List.getElem?_map]
  by_cases e : i = j
  · subst e
    rw [List.getElem?_set_self (List.getElem?_eq_some_iff.1 hx).1, if_pos rfl, hx]
    simp [hf]
  · rw [List.getElem?_set_ne e, if_neg e]

end Go.Proofs.Ytpkccpegdpodoaa

/- nanbox: boxes of values: contracts of the small functions, here and in the reference. -/
namespace Go.Proofs.Ytpkccpegdpodoaa
open Go.RowKit

/-- are a float's bits no number's? -/
def spo (w : Int) : Bool := decide (9218868437227405312 < w % 9223372036854775808)

theorem ret_bool {a b : Bool} (h : a = b) : Ending.returned (.bool a) = .returned (.bool b) := by rw [h]
theorem ret_u64 {a b : Int} (h : a = b) : Ending.returned (.int .u64 a) = .returned (.int .u64 b) := by rw [h]
theorem ret_i64 {a b : Int} (h : a = b) : Ending.returned (.int .i64 a) = .returned (.int .i64 b) := by rw [h]
theorem wraps64 (n : Int) (h₀ : 0 ≤ n) (h₁ : n < 2 ^ 64) : IntKind.u64.wrap n = n := by rw [IntKind.wrap_u64]; omega
theorem mask63 (x : Int) (h₀ : 0 ≤ x) (h₁ : x ≤ 18446744073709551615) : bits .and .u64 x 9223372036854775807 = x % 9223372036854775808 :=
  bits_mask .u64 64 (by decide) wraps64 63 (by decide) x h₀ (by omega)
theorem join48 (t y : Int) (h0 : 0 ≤ t) (h1 : t ≤ 65535) (y0 : 0 ≤ y) (y1 : y < 281474976710656) : bits .or .u64 (t * 281474976710656) y = t * 281474976710656 + y :=
  bits_join .u64 64 (by decide) wraps64 48 _ y (by omega) (by omega) (by omega) y0 (by omega) (by omega)

theorem spoilt_any (x : Int) (w : World) (hx : 0 ≤ x ∧ x ≤ 18446744073709551615) : Calls Try.prog 94 #[.int .u64 x] w fun e w' => e = .returned (.bool (spo x)) ∧ w' = w := by
  go_enter Try.func94, Try.ntmps94
  go_wp2
  go_ret
  exact ⟨ret_bool (by rw [mask63 x hx.1 hx.2]; rfl), rfl⟩
theorem odd_any (x : Int) (w : World) (hx : 0 ≤ x ∧ x ≤ 18446744073709551615) : Calls Try.prog 97 #[.int .u64 x] w fun e w' => e = .returned (.bool (spo x)) ∧ w' = w := by
  by_cases h : x / 4503599627370496 % 2048 = 2047
  · go_enter Try.func97, Try.ntmps97
    go_wp2
    go_ret
    refine ⟨ret_bool ?_, rfl⟩
    rw [IntKind.wrap_u64, Bool.eq_iff_iff]
    simp only [spo, bne_iff_ne, ne_eq, decide_eq_true_eq]
    omega
  · go_enter Try.func97, Try.ntmps97
    go_wp2
    go_ret
    refine ⟨ret_bool ?_, rfl⟩
    rw [Bool.eq_iff_iff]
    simp only [spo, decide_eq_true_eq, Bool.false_eq_true, false_iff]
    omega
/-- a kind's tag, from the first one on -/
def tagL (k : Int) : Int := 65529 + (if 3 < k then k - 1 else k)
theorem tag_any (k : Int) (w : World) (hk : 0 ≤ k ∧ k ≤ 6) : Calls Try.prog 96 #[.int .i64 k] w fun e w' => e = .returned (.int .u64 (tagL k * 281474976710656)) ∧ w' = w := by
  unfold tagL
  by_cases h : 3 < k
  · rw [if_pos h]
    go_enter Try.func96, Try.ntmps96
    go_wp2
    go_ret
    exact ⟨rfl, rfl⟩
  · rw [if_neg h]
    go_enter Try.func96, Try.ntmps96
    go_wp2
    go_ret
    exact ⟨rfl, rfl⟩
set_option maxRecDepth 100000 in
theorem rtag_any (k : Int) (w : World) (hk : 0 ≤ k ∧ k ≤ 6) (h3 : k ≠ 3) : Calls Try.prog 98 #[.int .i64 k] w fun e w' => e = .returned (.int .u64 (tagL k)) ∧ w' = w := by
  have key : ∀ w' : World, (Instr.index 207 (.agg #[.int .u64 65529, .int .u64 65530, .int .u64 65531, .int .u64 0, .int .u64 65532, .int .u64 65533, .int .u64 65534]) (.int .i64 k)).run Try.prog w' = .ok (.int .u64 (tagL k)) w' := by
    intro w'
    rcases (by omega : k = 0 ∨ k = 1 ∨ k = 2 ∨ k = 4 ∨ k = 5 ∨ k = 6) with rfl | rfl | rfl | rfl | rfl | rfl <;> kernel_rfl
  go_enter Try.func98, Try.ntmps98
  go_wp2
  go_ret
  exact ⟨rfl, rfl⟩
theorem rest_any (n m : Int) (w : World) (_hn : I64 n) (hm : 0 < m ∧ m ≤ 4611686018427387904) : Calls Try.prog 61 #[.int .i64 n, .int .i64 m] w fun e w' => e = .returned (.int .i64 (n % m)) ∧ w' = w := by
  have e2 := Int.emod_nonneg n (by omega : m ≠ 0)
  have e3 := Int.emod_lt_of_pos n hm.1
  have hcase : (0 ≤ n.tmod m ∧ n.tmod m = n % m) ∨ (n.tmod m < 0 ∧ n.tmod m + m = n % m) := by
    rw [Int.tmod_eq_emod]
    split
    · left; constructor <;> omega
    · right
      have : ¬ n % m = 0 := fun h => by rename_i h2; exact h2 (.inr (Int.dvd_of_emod_eq_zero h))
      constructor <;> omega
  rcases hcase with ⟨h1, h2⟩ | ⟨h1, h2⟩
  · have H2 := Lib.hid h2; clear h2
    go_enter Try.func61, Try.ntmps61
    go_wp2
    go_ret
    exact ⟨ret_i64 H2.out, rfl⟩
  · have hw : wrap64 (n.tmod m + m) = n % m := by
      rw [h2]; simp only [wrap64]; omega
    have H2 := Lib.hid hw; clear h2 hw
    go_enter Try.func61, Try.ntmps61
    go_wp2
    go_ret
    exact ⟨ret_i64 H2.out, rfl⟩

end Go.Proofs.Ytpkccpegdpodoaa

/- nanbox.Box and the reference's Box: one box. -/
namespace Go.Proofs.Ytpkccpegdpodoaa
open Go.RowKit

def lowk (k : Int) : Int := if k = 2 then -2147483648 else 0
def highk (k : Int) : Int := if k = 0 then 0 else if k = 1 then 1 else if k = 2 then 2147483647 else 4294967295
/-- the box of a value, and the error's number -/
def boxL (k n : Int) : Int × Int :=
  if k < 0 ∨ 6 < k then (0, 7)
  else if k = 3 then (if spo (n % 18446744073709551616) then (9221120237041090561, 0) else (n % 18446744073709551616, 0))
  else if n < lowk k ∨ highk k < n then (0, 1) else (tagL k * 281474976710656 + n % 4294967296, 0)

theorem bounds_any (k : Int) (w : World) (hk : 0 ≤ k ∧ k ≤ 6) : Calls Try.prog 95 #[.int .i64 k] w fun e w' => e = .returned (.tuple #[.int .i64 (lowk k), .int .i64 (highk k)]) ∧ w' = w := by
  rcases (by omega : k = 0 ∨ k = 1 ∨ k = 2 ∨ (k ≠ 0 ∧ k ≠ 1 ∧ k ≠ 2)) with rfl | rfl | rfl | ⟨h0, h1, h2⟩
  · go_enter Try.func95, Try.ntmps95
    go_wp2
    go_ret2
    exact ⟨rfl, rfl⟩
  · go_enter Try.func95, Try.ntmps95
    go_wp2
    go_ret2
    exact ⟨rfl, rfl⟩
  · go_enter Try.func95, Try.ntmps95
    go_wp2
    go_ret2
    exact ⟨rfl, rfl⟩
  · have hl : lowk k = 0 := by simp [lowk, h2]
    have hh : highk k = 4294967295 := by simp [highk, h0, h1, h2]
    rw [hl, hh]
    clear hl hh
    go_enter Try.func95, Try.ntmps95
    go_wp2
    go_ret2
    exact ⟨rfl, rfl⟩

def BoxPost (k n : Int) (w : World) (e : Ending) (w' : World) : Prop := e = .returned (.tuple #[.int .u64 (boxL k n).1, .int .i64 (boxL k n).2]) ∧ Below w.heap.size w w'
theorem box_is {k n x y : Int} {w w' : World} (h : boxL k n = (x, y)) (hb : Below w.heap.size w w') : BoxPost k n w (.returned (.tuple #[.int .u64 x, .int .i64 y])) w' := ⟨by rw [h], hb⟩

set_option maxRecDepth 100000 in
theorem box_any (k n : Int) (w : World) (hk : I64 k) (_hn : I64 n) : Calls Try.prog 14 #[.agg #[.int .i64 k, .int .i64 n]] w (BoxPost k n w) := by
  have hbl : Below w.heap.size w (w.alloc (.cells #[.int .i64 k, .int .i64 n] 23)) := (Below.refl _ _).alloc (Nat.le_refl _) _
  by_cases h0 : k < 0
  · have hbx := box_is (w := w) (by unfold boxL; rw [if_pos (.inl h0)] : boxL k n = (0, 7)) hbl
    have HB := Lib.hid hbx; clear hbx hbl
    go_enter Try.func14, Try.ntmps14
    go_wp2
    go_ret2
    exact HB.out
  by_cases h6 : 6 < k
  · have hbx := box_is (w := w) (by unfold boxL; rw [if_pos (.inr h6)] : boxL k n = (0, 7)) hbl
    have HB := Lib.hid hbx; clear hbx hbl
    go_enter Try.func14, Try.ntmps14
    go_wp2
    go_ret2
    exact HB.out
  have hk6 : ¬ (k < 0 ∨ 6 < k) := by omega
  by_cases h3 : k = 3
  · subst h3
    have hu : IntKind.u64.wrap n = n % 18446744073709551616 := IntKind.wrap_u64 n
    have hm : 0 ≤ n % 18446744073709551616 ∧ n % 18446744073709551616 ≤ 18446744073709551615 := by omega
    by_cases hs : spo (n % 18446744073709551616) = true
    · have hbx := box_is (w := w) (by unfold boxL; rw [if_neg hk6, if_pos rfl, if_pos hs] : boxL 3 n = (9221120237041090561, 0)) hbl
      have HB := Lib.hid hbx; clear hbx hbl
      have HS := Lib.hid hs; clear hs
      go_enter Try.func14, Try.ntmps14
      go_wp2_with fail
      refine (spoilt_any _ _ hm).mono ?_
      rintro e w' ⟨rfl, rfl⟩
      rw [HS.out]
      go_wp2_with fail
      go_ret2
      exact HB.out
    · have hbx := box_is (w := w) (by unfold boxL; rw [if_neg hk6, if_pos rfl, if_neg hs] : boxL 3 n = (n % 18446744073709551616, 0)) hbl
      have HB := Lib.hid hbx; clear hbx hbl
      have HS := Lib.hid (by simpa using hs : spo (n % 18446744073709551616) = false); clear hs
      go_enter Try.func14, Try.ntmps14
      go_wp2_with fail
      refine (spoilt_any _ _ hm).mono ?_
      rintro e w' ⟨rfl, rfl⟩
      rw [HS.out]
      go_wp2_with fail
      go_ret2
      exact HB.out
  have hk06 : 0 ≤ k ∧ k ≤ 6 := by omega
  by_cases hlo : n < lowk k
  · have hbx := box_is (w := w) (by unfold boxL; rw [if_neg hk6, if_neg h3, if_pos (.inl hlo)] : boxL k n = (0, 1)) hbl
    have HB := Lib.hid hbx; clear hbx hbl
    have H6 := Lib.hid hk6; clear hk6
    go_enter Try.func14, Try.ntmps14
    go_wp2_with fail
    refine (bounds_any k _ hk06).mono ?_
    rintro e w' ⟨rfl, rfl⟩
    go_wp2_with fail
    go_ret2
    exact HB.out
  by_cases hhi : highk k < n
  · have hbx := box_is (w := w) (by unfold boxL; rw [if_neg hk6, if_neg h3, if_pos (.inr hhi)] : boxL k n = (0, 1)) hbl
    have HB := Lib.hid hbx; clear hbx hbl
    have H6 := Lib.hid hk6; clear hk6
    go_enter Try.func14, Try.ntmps14
    go_wp2_with fail
    refine (bounds_any k _ hk06).mono ?_
    rintro e w' ⟨rfl, rfl⟩
    go_wp2_with fail
    go_ret2
    exact HB.out
  have hbx : boxL k n = (tagL k * 281474976710656 + n % 4294967296, 0) := by unfold boxL; rw [if_neg hk6, if_neg h3, if_neg (by omega)]
  have HBX := Lib.hid hbx; clear hbx
  have H6 := Lib.hid hk6; clear hk6
  have ht : 65529 ≤ tagL k ∧ tagL k ≤ 65534 := by unfold tagL; split <;> omega
  have hor := join48 (tagL k) (n % 4294967296) (by omega) (by omega) (by omega) (by omega)
  have hcv : IntKind.u32.wrap n = n % 4294967296 := IntKind.wrap_u32 n
  have HBL := Lib.hid hbl; clear hbl
  go_enter Try.func14, Try.ntmps14
  go_wp2_with fail
  refine (bounds_any k _ hk06).mono ?_
  rintro e w' ⟨rfl, rfl⟩
  go_wp2_with fail
  go_quiet ((go_at_call 96; refine Calls.quiet_of_same (tag_any k _ hk06)))
  go_wp2_with fail
  go_ret2
  exact box_is HBX.out (below_drewN HBL.out _)


set_option maxHeartbeats 1600000 in
set_option maxRecDepth 100000 in
theorem rbox_any (k n : Int) (w : World) (hk : I64 k) (hn : I64 n) : Calls Try.prog 15 #[.agg #[.int .i64 k, .int .i64 n]] w (BoxPost k n w) := by
  have hbl : Below w.heap.size w (w.alloc (.cells #[.int .i64 k, .int .i64 n] 23)) := (Below.refl _ _).alloc (Nat.le_refl _) _
  by_cases h0 : k < 0
  · have hbx := box_is (w := w) (by unfold boxL; rw [if_pos (.inl h0)] : boxL k n = (0, 7)) hbl
    have HB := Lib.hid hbx; clear hbx hbl
    go_enter Try.func15, Try.ntmps15
    go_wp2
    go_ret2
    exact HB.out
  by_cases h6 : 6 < k
  · have hbx := box_is (w := w) (by unfold boxL; rw [if_pos (.inr h6)] : boxL k n = (0, 7)) hbl
    have HB := Lib.hid hbx; clear hbx hbl
    go_enter Try.func15, Try.ntmps15
    go_wp2
    go_ret2
    exact HB.out
  have hk6 : ¬ (k < 0 ∨ 6 < k) := by omega
  by_cases h3 : k = 3
  · subst h3
    have hu : IntKind.u64.wrap n = n % 18446744073709551616 := IntKind.wrap_u64 n
    have hm : 0 ≤ n % 18446744073709551616 ∧ n % 18446744073709551616 ≤ 18446744073709551615 := by omega
    by_cases hs : spo (n % 18446744073709551616) = true
    · have hbx := box_is (w := w) (by unfold boxL; rw [if_neg hk6, if_pos rfl, if_pos hs] : boxL 3 n = (9221120237041090561, 0)) hbl
      have HB := Lib.hid hbx; clear hbx hbl
      have HS := Lib.hid hs; clear hs
      go_enter Try.func15, Try.ntmps15
      go_wp2_with fail
      refine (odd_any _ _ hm).mono ?_
      rintro e w' ⟨rfl, rfl⟩
      rw [HS.out]
      go_wp2_with fail
      go_ret2
      exact HB.out
    · have hbx := box_is (w := w) (by unfold boxL; rw [if_neg hk6, if_pos rfl, if_neg hs] : boxL 3 n = (n % 18446744073709551616, 0)) hbl
      have HB := Lib.hid hbx; clear hbx hbl
      have HS := Lib.hid (by simpa using hs : spo (n % 18446744073709551616) = false); clear hs
      go_enter Try.func15, Try.ntmps15
      go_wp2_with fail
      refine (odd_any _ _ hm).mono ?_
      rintro e w' ⟨rfl, rfl⟩
      rw [HS.out]
      go_wp2_with fail
      go_ret2
      exact HB.out
  have hk06 : 0 ≤ k ∧ k ≤ 6 := by omega
  have hcase : (k = 0 ∧ lowk k = 0 ∧ highk k = 0) ∨ (k = 1 ∧ lowk k = 0 ∧ highk k = 1) ∨ (k = 2 ∧ lowk k = -2147483648 ∧ highk k = 2147483647) ∨ (k ≠ 0 ∧ k ≠ 1 ∧ k ≠ 2 ∧ lowk k = 0 ∧ highk k = 4294967295) := by
    rcases (by omega : k = 0 ∨ k = 1 ∨ k = 2 ∨ (k ≠ 0 ∧ k ≠ 1 ∧ k ≠ 2)) with rfl | rfl | rfl | ⟨h0, h1, h2⟩
    · exact .inl ⟨rfl, rfl, rfl⟩
    · exact .inr (.inl ⟨rfl, rfl, rfl⟩)
    · exact .inr (.inr (.inl ⟨rfl, rfl, rfl⟩))
    · exact .inr (.inr (.inr ⟨h0, h1, h2, by simp [lowk, h2], by simp [highk, h0, h1, h2]⟩))
  by_cases hlh : n < lowk k ∨ highk k < n
  · have hbx := box_is (w := w) (by unfold boxL; rw [if_neg hk6, if_neg h3, if_pos hlh] : boxL k n = (0, 1)) hbl
    have HB := Lib.hid hbx; clear hbx hbl
    have H6 := Lib.hid hk6; clear hk6
    rcases hlh with hl | hl <;> rcases hcase with ⟨rfl, e1, e2⟩ | ⟨rfl, e1, e2⟩ | ⟨rfl, e1, e2⟩ | ⟨k0, k1, k2, e1, e2⟩ <;> (first | rw [e1] at hl | rw [e2] at hl) <;>
    · clear e1 e2
      go_enter Try.func15, Try.ntmps15
      go_wp2_with fail
      go_ret2
      exact HB.out
  have hbx : boxL k n = (tagL k * 281474976710656 + n % 4294967296, 0) := by unfold boxL; rw [if_neg hk6, if_neg h3, if_neg hlh]
  have HBX := Lib.hid hbx; clear hbx
  have H6 := Lib.hid hk6; clear hk6
  have ht : 65529 ≤ tagL k ∧ tagL k ≤ 65534 := by unfold tagL; split <;> omega
  have hr : 0 ≤ n % 4294967296 ∧ n % 4294967296 < 4294967296 := by omega
  have HBL := Lib.hid hbl; clear hbl
  have hl1 : lowk k ≤ n := by omega
  have hl2 : n ≤ highk k := by omega
  clear hlh
  rcases hcase with ⟨rfl, e1, e2⟩ | ⟨rfl, e1, e2⟩ | ⟨rfl, e1, e2⟩ | ⟨k0, k1, k2, e1, e2⟩ <;> rw [e1] at hl1 <;> rw [e2] at hl2 <;>
  · clear e1 e2
    go_enter Try.func15, Try.ntmps15
    go_wp2_with fail
    go_quiet ((first | (go_at_call 98; refine Calls.quiet_of_same (rtag_any _ _ hk06 h3)) | (go_at_call 61; refine Calls.quiet_of_same (rest_any n 4294967296 _ hn (by decide)))))
    go_wp2_with fail
    go_ret2
    exact box_is HBX.out (below_drewN HBL.out _)

end Go.Proofs.Ytpkccpegdpodoaa

/- nanbox.Unbox: a word's value. -/
namespace Go.Proofs.Ytpkccpegdpodoaa
open Go.RowKit

def sgn64 (w : Int) : Int := (w + 9223372036854775808) % 18446744073709551616 - 9223372036854775808
def sgn32 (n : Int) : Int := (n + 2147483648) % 4294967296 - 2147483648
/-- a word's kind by its tag, from the first one on -/
def kindL (w : Int) : Int := if 3 ≤ w / 281474976710656 - 65529 then w / 281474976710656 - 65529 + 1 else w / 281474976710656 - 65529
def numL (w : Int) : Int := if kindL w = 2 then sgn32 (w % 4294967296) else w % 4294967296
def unbL (w : Int) : Option (Int × Int) :=
  if w / 281474976710656 < 65529 ∨ 65534 < w / 281474976710656 then (if spo w = true ∧ w ≠ 9221120237041090561 then none else some (3, sgn64 w))
  else if boxL (kindL w) (numL w) = (w, 0) then some (kindL w, numL w) else none

def UnbPost (x : Int) (w : World) (e : Ending) (w' : World) : Prop := Below w.heap.size w w' ∧
  ((∃ k n, unbL x = some (k, n) ∧ e = .returned (.tuple #[.agg #[.int .i64 k, .int .i64 n], .int .i64 0])) ∨ (unbL x = none ∧ e = .returned (.tuple #[.agg #[.int .i64 0, .int .i64 0], .int .i64 3])))

set_option maxHeartbeats 800000 in
set_option maxRecDepth 100000 in
theorem unbox_any (x : Int) (w : World) (hx : 0 ≤ x ∧ x ≤ 18446744073709551615) : Calls Try.prog 16 #[.int .u64 x] w (UnbPost x w) := by
  by_cases ht : x / 281474976710656 < 65529 ∨ 65534 < x / 281474976710656
  · have hsg : IntKind.i64.wrap x = sgn64 x := IntKind.wrap_i64 x
    by_cases hs : spo x = true
    · by_cases ho : x = 9221120237041090561
      · have hu : unbL x = some (3, sgn64 x) := by unfold unbL; rw [if_pos ht, if_neg (by simp [ho])]
        have HU := Lib.hid hu; clear hu
        have HS := Lib.hid hs; clear hs
        have hb : (x != 9221120237041090561) = false := by simp [ho]
        have HO := Lib.hid ho; clear ho
        rcases ht with ht | ht
        · go_enter Try.func16, Try.ntmps16
          go_wp2_with fail
          refine (spoilt_any _ _ hx).mono ?_
          rintro e w' ⟨rfl, rfl⟩
          rw [HS.out]
          go_wp2_with fail
          refine bodyPost_ret (results_cell_tmp rfl _ _ w.heap.size _ _ _ rfl (Blk.new _ _ _) Try.underlying23 rfl (by kernel_rfl)) rfl ?_
          exact ⟨(Below.refl _ _).alloc (Nat.le_refl _) _, .inl ⟨_, _, HU.out, rfl⟩⟩
        · go_enter Try.func16, Try.ntmps16
          go_wp2_with fail
          refine (spoilt_any _ _ hx).mono ?_
          rintro e w' ⟨rfl, rfl⟩
          rw [HS.out]
          go_wp2_with fail
          refine bodyPost_ret (results_cell_tmp rfl _ _ w.heap.size _ _ _ rfl (Blk.new _ _ _) Try.underlying23 rfl (by kernel_rfl)) rfl ?_
          exact ⟨(Below.refl _ _).alloc (Nat.le_refl _) _, .inl ⟨_, _, HU.out, rfl⟩⟩
      · have hu : unbL x = none := by unfold unbL; rw [if_pos ht, if_pos ⟨hs, ho⟩]
        have HU := Lib.hid hu; clear hu
        have HS := Lib.hid hs; clear hs
        rcases ht with ht | ht
        · go_enter Try.func16, Try.ntmps16
          go_wp2_with fail
          refine (spoilt_any _ _ hx).mono ?_
          rintro e w' ⟨rfl, rfl⟩
          rw [HS.out]
          go_wp2_with fail
          refine bodyPost_ret (results_cell_tmp rfl _ _ w.heap.size _ _ _ rfl (Blk.new _ _ _) Try.underlying23 rfl (by kernel_rfl)) rfl ?_
          exact ⟨(Below.refl _ _).alloc (Nat.le_refl _) _, .inr ⟨HU.out, rfl⟩⟩
        · go_enter Try.func16, Try.ntmps16
          go_wp2_with fail
          refine (spoilt_any _ _ hx).mono ?_
          rintro e w' ⟨rfl, rfl⟩
          rw [HS.out]
          go_wp2_with fail
          refine bodyPost_ret (results_cell_tmp rfl _ _ w.heap.size _ _ _ rfl (Blk.new _ _ _) Try.underlying23 rfl (by kernel_rfl)) rfl ?_
          exact ⟨(Below.refl _ _).alloc (Nat.le_refl _) _, .inr ⟨HU.out, rfl⟩⟩
    · have hu : unbL x = some (3, sgn64 x) := by unfold unbL; rw [if_pos ht, if_neg (by simp [hs])]
      have HU := Lib.hid hu; clear hu
      have HS := Lib.hid (by simpa using hs : spo x = false); clear hs
      rcases ht with ht | ht
      · go_enter Try.func16, Try.ntmps16
        go_wp2_with fail
        refine (spoilt_any _ _ hx).mono ?_
        rintro e w' ⟨rfl, rfl⟩
        rw [HS.out]
        go_wp2_with fail
        refine bodyPost_ret (results_cell_tmp rfl _ _ w.heap.size _ _ _ rfl (Blk.new _ _ _) Try.underlying23 rfl (by kernel_rfl)) rfl ?_
        exact ⟨(Below.refl _ _).alloc (Nat.le_refl _) _, .inl ⟨_, _, HU.out, rfl⟩⟩
      · go_enter Try.func16, Try.ntmps16
        go_wp2_with fail
        refine (spoilt_any _ _ hx).mono ?_
        rintro e w' ⟨rfl, rfl⟩
        rw [HS.out]
        go_wp2_with fail
        refine bodyPost_ret (results_cell_tmp rfl _ _ w.heap.size _ _ _ rfl (Blk.new _ _ _) Try.underlying23 rfl (by kernel_rfl)) rfl ?_
        exact ⟨(Below.refl _ _).alloc (Nat.le_refl _) _, .inl ⟨_, _, HU.out, rfl⟩⟩
  · have hu : unbL x = if boxL (kindL x) (numL x) = (x, 0) then some (kindL x, numL x) else none := by unfold unbL; rw [if_neg ht]
    have HU := Lib.hid hu; clear hu
    have ht1 : 65529 ≤ x / 281474976710656 := by omega
    have ht2 : x / 281474976710656 ≤ 65534 := by omega
    clear ht
    have hI : I64 (kindL x) ∧ I64 (numL x) := by
      unfold I64 numL kindL sgn32
      constructor
      · split <;> omega
      · split <;> omega
    have HI := Lib.hid hI; clear hI
    by_cases h3 : 3 ≤ x / 281474976710656 - 65529
    · have hk : kindL x = x / 281474976710656 - 65529 + 1 := by simp [kindL, h3]
      have hn : numL x = x % 4294967296 := by unfold numL; rw [if_neg (by omega)]
      have HKN := Lib.hid (And.intro hk hn); clear hk hn
      go_enter Try.func16, Try.ntmps16
      go_wp2_with fail
      rw [← HKN.out.1, ← HKN.out.2]
      refine calls_world (fun W => Blk W w.heap.size 23 #[.int .i64 0, .int .i64 0] ∧ Blk W (w.heap.size + 1) 23 #[.int .i64 (kindL x), .int .i64 (numL x)] ∧ Below w.heap.size w W ∧ w.heap.size + 2 ≤ W.heap.size) ⟨(Blk.new _ _ _).alloc _, Blk.at_ (w.alloc _) _ _ (by simp), ((Below.refl _ _).alloc (Nat.le_refl _) _).alloc (by simp) _, by simp⟩ ?_
      rintro W ⟨hG, hV, hbl, hsz⟩
      refine (box_any (kindL x) (numL x) W HI.out.1 HI.out.2).mono ?_
      rintro e w' ⟨rfl, hb⟩
      have HG := Lib.hid (hG.fresh hb)
      have HV := Lib.hid (hV.fresh hb)
      have hbl' := hbl.trans (hb.mono (by omega))
      have hU := HU.out
      obtain ⟨y, z, hyz⟩ : ∃ y z, boxL (kindL x) (numL x) = (y, z) := ⟨_, _, rfl⟩
      rw [hyz] at hU ⊢
      clear hG hV hb hyz
      by_cases hz : z = 0
      · subst hz
        by_cases hy : y = x
        · rw [hy, if_pos rfl] at hU
          have HU2 := Lib.hid hU; clear hU
          have hy2 : (y != x) = false := by simp [hy]
          have HY := Lib.hid hy; clear hy
          go_wp2_with (first | (refine wpList_ld rfl 23 (.tmp 4) rfl (w.heap.size + 1) rfl HV.out Try.underlying23 rfl (by kernel_rfl) ?_) | (refine wpList_st rfl 23 (.tmp 2) (.tmp 61) rfl w.heap.size rfl rfl HG.out (by kernel_rfl) rfl rfl ?_))
          refine bodyPost_ret (results_cell_tmp rfl _ _ w.heap.size _ _ _ rfl HG.out.setRow Try.underlying23 rfl (by kernel_rfl)) rfl ?_
          exact ⟨bel_setRow hbl' (Nat.le_refl _) _, .inl ⟨_, _, HU2.out, rfl⟩⟩
        · rw [if_neg (by simp [hy])] at hU
          have HU2 := Lib.hid hU; clear hU
          have hy2 : (y != x) = true := by simp [hy]
          go_wp2_with (refine wpList_st rfl 23 (.tmp 2) (.tmp 60) rfl w.heap.size rfl rfl HG.out (by kernel_rfl) rfl rfl ?_)
          refine bodyPost_ret (results_cell_tmp rfl _ _ w.heap.size _ _ _ rfl HG.out.setRow Try.underlying23 rfl (by kernel_rfl)) rfl ?_
          exact ⟨bel_setRow hbl' (Nat.le_refl _) _, .inr ⟨HU2.out, rfl⟩⟩
      · rw [if_neg (by simp [hz])] at hU
        have HU2 := Lib.hid hU; clear hU
        have hz2 : (z != 0) = true := by simp [hz]
        go_wp2_with (refine wpList_st rfl 23 (.tmp 2) (.tmp 60) rfl w.heap.size rfl rfl HG.out (by kernel_rfl) rfl rfl ?_)
        refine bodyPost_ret (results_cell_tmp rfl _ _ w.heap.size _ _ _ rfl HG.out.setRow Try.underlying23 rfl (by kernel_rfl)) rfl ?_
        exact ⟨bel_setRow hbl' (Nat.le_refl _) _, .inr ⟨HU2.out, rfl⟩⟩
    have h3' : ¬ 3 ≤ x / 281474976710656 - 65529 := h3
    by_cases h2 : x / 281474976710656 - 65529 = 2
    · have hk : kindL x = 2 := by simp [kindL, h2]
      have hn : numL x = sgn32 (x % 4294967296) := by unfold numL; rw [if_pos hk]
      have HKN := Lib.hid (And.intro hk hn); clear hk hn
      have hw : IntKind.i32.wrap (x % 4294967296) = sgn32 (x % 4294967296) := IntKind.wrap_i32 _
      have hw2 : wrap64 (sgn32 (x % 4294967296)) = sgn32 (x % 4294967296) := IntWalk.wrap64_in _ (by unfold sgn32; omega)
      go_enter Try.func16, Try.ntmps16
      go_wp2_with fail
      try rw [hw2]
      rw [← HKN.out.2]
      refine calls_world (fun W => Blk W w.heap.size 23 #[.int .i64 0, .int .i64 0] ∧ Blk W (w.heap.size + 1) 23 #[.int .i64 2, .int .i64 (numL x)] ∧ Below w.heap.size w W ∧ w.heap.size + 2 ≤ W.heap.size) ⟨(Blk.new _ _ _).alloc _, Blk.at_ (w.alloc _) _ _ (by simp), ((Below.refl _ _).alloc (Nat.le_refl _) _).alloc (by simp) _, by simp⟩ ?_
      rintro W ⟨hG, hV, hbl, hsz⟩
      refine (box_any 2 (numL x) W (by unfold I64; omega) HI.out.2).mono ?_
      rintro e w' ⟨rfl, hb⟩
      have HG := Lib.hid (hG.fresh hb)
      have HV := Lib.hid (hV.fresh hb)
      have hbl' := hbl.trans (hb.mono (by omega))
      have hU := HU.out
      rw [HKN.out.1] at hU
      obtain ⟨y, z, hyz⟩ : ∃ y z, boxL 2 (numL x) = (y, z) := ⟨_, _, rfl⟩
      rw [hyz] at hU ⊢
      clear hG hV hb hyz
      by_cases hz : z = 0
      · subst hz
        by_cases hy : y = x
        · rw [hy, if_pos rfl] at hU
          have HU2 := Lib.hid hU; clear hU
          have hy2 : (y != x) = false := by simp [hy]
          have HY := Lib.hid hy; clear hy
          go_wp2_with (first | (refine wpList_ld rfl 23 (.tmp 4) rfl (w.heap.size + 1) rfl HV.out Try.underlying23 rfl (by kernel_rfl) ?_) | (refine wpList_st rfl 23 (.tmp 2) (.tmp 61) rfl w.heap.size rfl rfl HG.out (by kernel_rfl) rfl rfl ?_))
          refine bodyPost_ret (results_cell_tmp rfl _ _ w.heap.size _ _ _ rfl HG.out.setRow Try.underlying23 rfl (by kernel_rfl)) rfl ?_
          exact ⟨bel_setRow hbl' (Nat.le_refl _) _, .inl ⟨_, _, HU2.out, rfl⟩⟩
        · rw [if_neg (by simp [hy])] at hU
          have HU2 := Lib.hid hU; clear hU
          have hy2 : (y != x) = true := by simp [hy]
          go_wp2_with (refine wpList_st rfl 23 (.tmp 2) (.tmp 60) rfl w.heap.size rfl rfl HG.out (by kernel_rfl) rfl rfl ?_)
          refine bodyPost_ret (results_cell_tmp rfl _ _ w.heap.size _ _ _ rfl HG.out.setRow Try.underlying23 rfl (by kernel_rfl)) rfl ?_
          exact ⟨bel_setRow hbl' (Nat.le_refl _) _, .inr ⟨HU2.out, rfl⟩⟩
      · rw [if_neg (by simp [hz])] at hU
        have HU2 := Lib.hid hU; clear hU
        have hz2 : (z != 0) = true := by simp [hz]
        go_wp2_with (refine wpList_st rfl 23 (.tmp 2) (.tmp 60) rfl w.heap.size rfl rfl HG.out (by kernel_rfl) rfl rfl ?_)
        refine bodyPost_ret (results_cell_tmp rfl _ _ w.heap.size _ _ _ rfl HG.out.setRow Try.underlying23 rfl (by kernel_rfl)) rfl ?_
        exact ⟨bel_setRow hbl' (Nat.le_refl _) _, .inr ⟨HU2.out, rfl⟩⟩
    · have hk : kindL x = x / 281474976710656 - 65529 := by simp [kindL, h3]
      have hn : numL x = x % 4294967296 := by unfold numL; rw [if_neg (by omega)]
      have HKN := Lib.hid (And.intro hk hn); clear hk hn
      go_enter Try.func16, Try.ntmps16
      go_wp2_with fail
      rw [← HKN.out.1, ← HKN.out.2]
      refine calls_world (fun W => Blk W w.heap.size 23 #[.int .i64 0, .int .i64 0] ∧ Blk W (w.heap.size + 1) 23 #[.int .i64 (kindL x), .int .i64 (numL x)] ∧ Below w.heap.size w W ∧ w.heap.size + 2 ≤ W.heap.size) ⟨(Blk.new _ _ _).alloc _, Blk.at_ (w.alloc _) _ _ (by simp), ((Below.refl _ _).alloc (Nat.le_refl _) _).alloc (by simp) _, by simp⟩ ?_
      rintro W ⟨hG, hV, hbl, hsz⟩
      refine (box_any (kindL x) (numL x) W HI.out.1 HI.out.2).mono ?_
      rintro e w' ⟨rfl, hb⟩
      have HG := Lib.hid (hG.fresh hb)
      have HV := Lib.hid (hV.fresh hb)
      have hbl' := hbl.trans (hb.mono (by omega))
      have hU := HU.out
      obtain ⟨y, z, hyz⟩ : ∃ y z, boxL (kindL x) (numL x) = (y, z) := ⟨_, _, rfl⟩
      rw [hyz] at hU ⊢
      clear hG hV hb hyz
      by_cases hz : z = 0
      · subst hz
        by_cases hy : y = x
        · rw [hy, if_pos rfl] at hU
          have HU2 := Lib.hid hU; clear hU
          have hy2 : (y != x) = false := by simp [hy]
          have HY := Lib.hid hy; clear hy
          go_wp2_with (first | (refine wpList_ld rfl 23 (.tmp 4) rfl (w.heap.size + 1) rfl HV.out Try.underlying23 rfl (by kernel_rfl) ?_) | (refine wpList_st rfl 23 (.tmp 2) (.tmp 61) rfl w.heap.size rfl rfl HG.out (by kernel_rfl) rfl rfl ?_))
          refine bodyPost_ret (results_cell_tmp rfl _ _ w.heap.size _ _ _ rfl HG.out.setRow Try.underlying23 rfl (by kernel_rfl)) rfl ?_
          exact ⟨bel_setRow hbl' (Nat.le_refl _) _, .inl ⟨_, _, HU2.out, rfl⟩⟩
        · rw [if_neg (by simp [hy])] at hU
          have HU2 := Lib.hid hU; clear hU
          have hy2 : (y != x) = true := by simp [hy]
          go_wp2_with (refine wpList_st rfl 23 (.tmp 2) (.tmp 60) rfl w.heap.size rfl rfl HG.out (by kernel_rfl) rfl rfl ?_)
          refine bodyPost_ret (results_cell_tmp rfl _ _ w.heap.size _ _ _ rfl HG.out.setRow Try.underlying23 rfl (by kernel_rfl)) rfl ?_
          exact ⟨bel_setRow hbl' (Nat.le_refl _) _, .inr ⟨HU2.out, rfl⟩⟩
      · rw [if_neg (by simp [hz])] at hU
        have HU2 := Lib.hid hU; clear hU
        have hz2 : (z != 0) = true := by simp [hz]
        go_wp2_with (refine wpList_st rfl 23 (.tmp 2) (.tmp 60) rfl w.heap.size rfl rfl HG.out (by kernel_rfl) rfl rfl ?_)
        refine bodyPost_ret (results_cell_tmp rfl _ _ w.heap.size _ _ _ rfl HG.out.setRow Try.underlying23 rfl (by kernel_rfl)) rfl ?_
        exact ⟨bel_setRow hbl' (Nat.le_refl _) _, .inr ⟨HU2.out, rfl⟩⟩

end Go.Proofs.Ytpkccpegdpodoaa

/- The reference's Unbox: what it computes is what nanbox.Unbox computes (plain). -/
namespace Go.Proofs.Ytpkccpegdpodoaa
open Go.RowKit

def n48 (x : Int) : Int := if kindL x = 2 ∧ 2147483648 ≤ x % 281474976710656 then x % 281474976710656 - 4294967296 else x % 281474976710656
/-- the reference's value behind j of its six tags -/
def vk (x : Int) (j : Nat) : Int := if 65529 ≤ x / 281474976710656 ∧ x / 281474976710656 < 65529 + j then kindL x else 3
def vn (x : Int) (j : Nat) : Int := if 65529 ≤ x / 281474976710656 ∧ x / 281474976710656 < 65529 + j then n48 x else sgn64 x

theorem unb_ref (x : Int) (hx : 0 ≤ x ∧ x ≤ 18446744073709551615) : unbL x = if boxL (vk x 6) (vn x 6) = (x, 0) then some (vk x 6, vn x 6) else none := by
  by_cases ht : x / 281474976710656 < 65529 ∨ 65534 < x / 281474976710656
  · have h1 : vk x 6 = 3 := by unfold vk; rw [if_neg (by omega)]
    have h2 : vn x 6 = sgn64 x := by unfold vn; rw [if_neg (by omega)]
    have h3 : sgn64 x % 18446744073709551616 = x := by unfold sgn64; omega
    have hb : boxL 3 (sgn64 x) = if spo x = true then (9221120237041090561, 0) else (x, 0) := by unfold boxL; rw [if_neg (by omega), if_pos rfl, h3]
    rw [h1, h2, hb]
    unfold unbL
    rw [if_pos ht]
    by_cases hs : spo x = true
    · by_cases ho : x = 9221120237041090561
      · rw [if_neg (by simp [ho]), if_pos hs, if_pos (by rw [ho])]
      · rw [if_pos ⟨hs, ho⟩, if_pos hs, if_neg (by simp; exact fun h => ho h.symm)]
    · rw [if_neg (by simp [hs]), if_neg hs, if_pos rfl]
  · have h1 : vk x 6 = kindL x := by unfold vk; rw [if_pos (by omega)]
    have h2 : vn x 6 = n48 x := by unfold vn; rw [if_pos (by omega)]
    rw [h1, h2]
    have hk : 0 ≤ kindL x ∧ kindL x ≤ 6 ∧ kindL x ≠ 3 := by unfold kindL; split <;> omega
    have htg : tagL (kindL x) = x / 281474976710656 := by unfold tagL kindL; split <;> split <;> omega
    have hlh : lowk (kindL x) = (if kindL x = 2 then -2147483648 else 0) := rfl
    have hhh : highk (kindL x) ≤ 4294967295 := by unfold highk; split <;> (try split) <;> (try split) <;> omega
    unfold unbL
    rw [if_neg ht]
    by_cases hb : x % 281474976710656 < 4294967296
    · have : numL x = n48 x := by
        unfold numL n48 sgn32
        by_cases h2 : kindL x = 2
        · rw [if_pos h2]
          by_cases h3 : 2147483648 ≤ x % 281474976710656
          · rw [if_pos ⟨h2, h3⟩]; omega
          · rw [if_neg (by omega)]; omega
        · rw [if_neg h2, if_neg (by omega)]; omega
      rw [this]
    · have key : ∀ n : Int, boxL (kindL x) n ≠ (x, 0) := by
        intro n
        unfold boxL
        rw [if_neg (by omega), if_neg hk.2.2]
        split
        · simp
        · rw [htg]
          intro h
          injection h with h _
          omega
      rw [if_neg (key _), if_neg (key _)]

end Go.Proofs.Ytpkccpegdpodoaa

/- The reference's Unbox, walked. -/
namespace Go.Proofs.Ytpkccpegdpodoaa
open Go.RowKit

def kj (j : Nat) : Int := if 3 ≤ j then (j : Int) + 1 else j

theorem vk_same {x : Int} {j : Nat} (h : ¬ x / 281474976710656 = 65529 + (j : Int)) : vk x (j + 1) = vk x j ∧ vn x (j + 1) = vn x j := by
  have e : (65529 ≤ x / 281474976710656 ∧ x / 281474976710656 < 65529 + ((j + 1 : Nat) : Int)) ↔ (65529 ≤ x / 281474976710656 ∧ x / 281474976710656 < 65529 + (j : Int)) := by omega
  unfold vk vn
  simp only [e, and_self]
theorem vk_hit {x : Int} {j : Nat} (h : x / 281474976710656 = 65529 + (j : Int)) : vk x (j + 1) = kj j ∧ kindL x = kj j ∧ vn x (j + 1) = n48 x := by
  have hk : kindL x = kj j := by unfold kindL kj; split <;> split <;> omega
  refine ⟨?_, hk, ?_⟩
  · unfold vk; rw [if_pos (by omega)]; exact hk
  · unfold vn; rw [if_pos (by omega)]

def RUnbPost (x : Int) (w : World) (e : Ending) (w' : World) : Prop := Below w.heap.size w w' ∧
  ((∃ k n, unbL x = some (k, n) ∧ e = .returned (.tuple #[.agg #[.int .i64 k, .int .i64 n], .bool true])) ∨ (unbL x = none ∧ e = .returned (.tuple #[.agg #[.int .i64 0, .int .i64 0], .bool false])))

set_option maxHeartbeats 1600000 in
set_option maxRecDepth 100000 in
theorem runbox_any (x : Int) (w : World) (hx : 0 ≤ x ∧ x ≤ 18446744073709551615) : Calls Try.prog 17 #[.int .u64 x] w (RUnbPost x w) := by
  have hsg : IntKind.i64.wrap x = sgn64 x := IntKind.wrap_i64 x
  have hsg2 : wrap64 x = sgn64 x := by rw [← hsg]; exact (IntWalk.i64_left x).symm
  go_enter Try.func17, Try.ntmps17
  go_wp2_with fail
  refine wp_world (fun W => Blk W w.heap.size 23 #[.int .i64 0, .int .i64 0] ∧ Blk W (w.heap.size + 1) 23 #[.int .i64 (vk x 0), .int .i64 (vn x 0)] ∧ Blk W (w.heap.size + 1 + 1) 3 #[.int .i64 0, .int .i64 1, .int .i64 2, .int .i64 4, .int .i64 5, .int .i64 6] ∧ Below w.heap.size w W ∧ w.heap.size + 3 ≤ W.heap.size) ⟨?_, ?_, ?_, ?_, ?_⟩ ?_
  · exact ((Blk.new _ _ _).alloc _).alloc _
  · have h1 : vk x 0 = 3 := by unfold vk; rw [if_neg (by omega)]
    have h2 : vn x 0 = sgn64 x := by unfold vn; rw [if_neg (by omega)]
    rw [h1, h2]
    exact (Blk.at_ (w.alloc _) _ _ (by simp)).alloc _
  · exact Blk.at_ ((w.alloc _).alloc _) _ _ (by simp)
  · exact (((Below.refl _ _).alloc (Nat.le_refl _) _).alloc (by simp) _).alloc (by simp; omega) _
  · simp
  rintro W ⟨hG, hV, hL, hbl, hsz⟩
  go_loopw [14] (fun i wr => ∃ (j : Nat), j ≤ 6 ∧ i = .int .i64 j ∧ Hid (Blk wr w.heap.size 23 #[.int .i64 0, .int .i64 0] ∧ Blk wr (w.heap.size + 1) 23 #[.int .i64 (vk x j), .int .i64 (vn x j)] ∧ Blk wr (w.heap.size + 1 + 1) 3 #[.int .i64 0, .int .i64 1, .int .i64 2, .int .i64 4, .int .i64 5, .int .i64 6]) ∧ Below w.heap.size w wr ∧ w.heap.size + 3 ≤ wr.heap.size) (fun i _ => 6 - (intOf i).toNat)
  case atStart => exact ⟨0, by omega, rfl, ⟨hG, hV, hL⟩, hbl, hsz⟩
  case round =>
    obtain ⟨j, hj, rfl, hkeep, hbl, hsz⟩ := hrel
    clear hG hV hL
    by_cases hlt : j < 6
    · have c0 : wr.cell? ⟨w.heap.size + 1 + 1, j, none⟩ = some (.int .i64 (kj j)) := by
        rcases (by omega : j = 0 ∨ j = 1 ∨ j = 2 ∨ j = 3 ∨ j = 4 ∨ j = 5) with rfl | rfl | rfl | rfl | rfl | rfl <;> exact hkeep.out.2.2.cell _ rfl
      have hk6 : 0 ≤ kj j ∧ kj j ≤ 6 := by unfold kj; split <;> omega
      have hk3 : kj j ≠ 3 := by unfold kj; split <;> omega
      have htg : tagL (kj j) = 65529 + j := by unfold tagL kj; split <;> split <;> omega
      have hlt0 : w.heap.size + 1 + 1 < wr.heap.size := by omega
      obtain ⟨K, hK⟩ : ∃ K, K = kj j := ⟨_, rfl⟩
      rw [← hK] at c0 hk6 hk3 htg
      have HK := Lib.hid hK; clear hK
      go_wp2_with fail
      refine (rtag_any K _ hk6 hk3).mono ?_
      rintro e w' ⟨rfl, rfl⟩
      rw [htg]
      by_cases he : x / 281474976710656 = 65529 + (j : Int)
      · obtain ⟨v1, v2, v3⟩ := vk_hit he
        rw [← HK.out] at v1 v2
        have HVS := Lib.hid (And.intro v1 (And.intro v2 v3)); clear v1 v2 v3
        have hB := hkeep.out.2.1.setRow (cs' := #[.int .i64 (K), .int .i64 (x % 281474976710656)])
        have s1 := hB.cell 1 (v := .int .i64 (x % 281474976710656)) rfl
        have f1 := hB.frozen 1
        have HB := Lib.hid hB; clear hB
        have hG' : Blk (w'.setRow (w.heap.size + 1) #[.int .i64 (K), .int .i64 (x % 281474976710656)]) w.heap.size 23 #[.int .i64 0, .int .i64 0] := hkeep.out.1.setRow_far (by omega)
        have hL' : Blk (w'.setRow (w.heap.size + 1) #[.int .i64 (K), .int .i64 (x % 281474976710656)]) (w.heap.size + 1 + 1) 3 #[.int .i64 0, .int .i64 1, .int .i64 2, .int .i64 4, .int .i64 5, .int .i64 6] := hkeep.out.2.2.setRow_far (by omega)
        have HGL := Lib.hid (And.intro hG' hL'); clear hG' hL'
        have hm : 0 ≤ x % 281474976710656 ∧ x % 281474976710656 < 281474976710656 := by omega
        have hbl2 := bel_setRow hbl (by omega : w.heap.size ≤ w.heap.size + 1) #[.int .i64 (K), .int .i64 (x % 281474976710656)]
        have hsz2 : w.heap.size + 3 ≤ (w'.setRow (w.heap.size + 1) #[.int .i64 (K), .int .i64 (x % 281474976710656)]).heap.size := by simpa using hsz
        by_cases h2 : K = 2
        · subst h2
          by_cases h31 : 2147483648 ≤ x % 281474976710656
          · go_wp2_with (refine wpList_st rfl 23 (.tmp 4) (.tmp 27) rfl (w.heap.size + 1) rfl rfl hkeep.out.2.1 (by kernel_rfl) rfl rfl ?_)
            go_roundw
            case rel =>
              refine ⟨j + 1, by omega, by go_num, ⟨HGL.out.1.far (by simp) _, ?_, HGL.out.2.far (by simp) _⟩, hbl2.setCell (by simp) _, by simp [World.setCell]; omega⟩
              have := HB.out.set_ 1 (.int .i64 (x % 281474976710656 - 4294967296))
              rw [HVS.out.1, HVS.out.2.2, show n48 x = x % 281474976710656 - 4294967296 by unfold n48; rw [if_pos ⟨HVS.out.2.1, h31⟩]]
              exact this
            case measure => simp [intOf]; omega
          · go_wp2_with (refine wpList_st rfl 23 (.tmp 4) (.tmp 27) rfl (w.heap.size + 1) rfl rfl hkeep.out.2.1 (by kernel_rfl) rfl rfl ?_)
            go_roundw
            case rel =>
              refine ⟨j + 1, by omega, by go_num, ⟨HGL.out.1, ?_, HGL.out.2⟩, hbl2, hsz2⟩
              rw [HVS.out.1, HVS.out.2.2, show n48 x = x % 281474976710656 by unfold n48; rw [if_neg (by omega)]]
              exact HB.out
            case measure => simp [intOf]; omega
        · have h2b : (K == 2) = false := by simp [h2]
          go_wp2_with (refine wpList_st rfl 23 (.tmp 4) (.tmp 27) rfl (w.heap.size + 1) rfl rfl hkeep.out.2.1 (by kernel_rfl) rfl rfl ?_)
          go_roundw
          case rel =>
            refine ⟨j + 1, by omega, by go_num, ⟨HGL.out.1, ?_, HGL.out.2⟩, hbl2, hsz2⟩
            rw [HVS.out.1, HVS.out.2.2, show n48 x = x % 281474976710656 by unfold n48; rw [if_neg (by rw [HVS.out.2.1]; exact fun h => h2 h.1)]]
            exact HB.out
          case measure => simp [intOf]; omega
      · obtain ⟨v1, v2⟩ := vk_same he
        have HVS := Lib.hid (And.intro v1 v2); clear v1 v2
        have heb : (x / 281474976710656 == 65529 + (j : Int)) = false := by simp [he]
        go_wp2_with fail
        go_roundw
        case rel => exact ⟨j + 1, by omega, by go_num, by rw [HVS.out.1, HVS.out.2]; exact hkeep, hbl, hsz⟩
        case measure => simp [intOf]; omega
    · obtain rfl : j = 6 := by omega
      have hI : I64 (vk x 6) ∧ I64 (vn x 6) := by
        unfold I64 vk vn kindL n48 sgn64
        constructor
        · split <;> (try split) <;> omega
        · split <;> (try split) <;> omega
      have HI := Lib.hid hI; clear hI
      have HU := Lib.hid (unb_ref x hx)
      go_wp2_with (refine wpList_ld rfl 23 (.tmp 4) rfl (w.heap.size + 1) rfl hkeep.out.2.1 Try.underlying23 rfl (by kernel_rfl) ?_)
      refine (rbox_any (vk x 6) (vn x 6) _ HI.out.1 HI.out.2).mono ?_
      rintro e w' ⟨rfl, hb⟩
      have HG := Lib.hid (hkeep.out.1.fresh hb)
      have HV := Lib.hid (hkeep.out.2.1.fresh hb)
      have hbl' := hbl.trans (hb.mono (by omega))
      have hU := HU.out
      obtain ⟨y, z, hyz⟩ : ∃ y z, boxL (vk x 6) (vn x 6) = (y, z) := ⟨_, _, rfl⟩
      rw [hyz] at hU ⊢
      clear hb hyz
      by_cases hz : z = 0
      · subst hz
        by_cases hy : y = x
        · rw [hy, if_pos rfl] at hU
          have HU2 := Lib.hid hU; clear hU
          have hy2 : (y != x) = false := by simp [hy]
          have HY := Lib.hid hy; clear hy
          go_wp2_with (first | (refine wpList_ld rfl 23 (.tmp 4) rfl (w.heap.size + 1) rfl HV.out Try.underlying23 rfl (by kernel_rfl) ?_) | (refine wpList_st rfl 23 (.tmp 2) (.tmp 53) rfl w.heap.size rfl rfl HG.out (by kernel_rfl) rfl rfl ?_))
          refine bodyPost_ret (results_cell_tmp rfl _ _ w.heap.size _ _ _ rfl HG.out.setRow Try.underlying23 rfl (by kernel_rfl)) rfl ?_
          exact ⟨bel_setRow hbl' (Nat.le_refl _) _, .inl ⟨_, _, HU2.out, rfl⟩⟩
        · rw [if_neg (by simp [hy])] at hU
          have HU2 := Lib.hid hU; clear hU
          have hy2 : (y != x) = true := by simp [hy]
          go_wp2_with (refine wpList_st rfl 23 (.tmp 2) (.tmp 52) rfl w.heap.size rfl rfl HG.out (by kernel_rfl) rfl rfl ?_)
          refine bodyPost_ret (results_cell_tmp rfl _ _ w.heap.size _ _ _ rfl HG.out.setRow Try.underlying23 rfl (by kernel_rfl)) rfl ?_
          exact ⟨bel_setRow hbl' (Nat.le_refl _) _, .inr ⟨HU2.out, rfl⟩⟩
      · rw [if_neg (by simp [hz])] at hU
        have HU2 := Lib.hid hU; clear hU
        have hz2 : (z != 0) = true := by simp [hz]
        go_wp2_with (refine wpList_st rfl 23 (.tmp 2) (.tmp 52) rfl w.heap.size rfl rfl HG.out (by kernel_rfl) rfl rfl ?_)
        refine bodyPost_ret (results_cell_tmp rfl _ _ w.heap.size _ _ _ rfl HG.out.setRow Try.underlying23 rfl (by kernel_rfl)) rfl ?_
        exact ⟨bel_setRow hbl' (Nat.le_refl _) _, .inr ⟨HU2.out, rfl⟩⟩

end Go.Proofs.Ytpkccpegdpodoaa

/- nanbox.Kind; the closed fact 'boxed'. -/
namespace Go.Proofs.Ytpkccpegdpodoaa
open Go.RowKit

def kindOf (x : Int) : Int := match unbL x with | some (k, _) => k | none => -1

set_option maxHeartbeats 800000 in
set_option maxRecDepth 100000 in
theorem kind_any (x : Int) (w : World) (hx : 0 ≤ x ∧ x ≤ 18446744073709551615) : Calls Try.prog 18 #[.int .u64 x] w fun e w' => e = .returned (.int .i64 (kindOf x)) ∧ Below w.heap.size w w' := by
  go_enter Try.func18, Try.ntmps18
  go_wp2_with fail
  refine (unbox_any x _ hx).mono ?_
  rintro e w' ⟨hb, hp⟩
  have hs := hb.size
  rcases hp with ⟨k, n, hu, rfl⟩ | ⟨hu, rfl⟩
  · have hk : kindOf x = k := by unfold kindOf; rw [hu]
    have HK := Lib.hid hk; clear hk hu
    go_wp2_with fail
    go_ret
    exact ⟨ret_i64 HK.out.symm, hb.alloc hs _⟩
  · have hk : kindOf x = -1 := by unfold kindOf; rw [hu]
    have HK := Lib.hid hk; clear hk hu
    go_wp2_with fail
    go_ret
    exact ⟨ret_i64 HK.out.symm, hb.alloc hs _⟩

set_option maxRecDepth 100000 in
theorem boxed_any (w : World) : Calls Try.prog 13 #[] w fun e w' => e = .returned (.bool true) ∧ Below w.heap.size w w' := by
  have hb0 : boxL 2 (-1) = (18445336703120965631, 0) := by decide
  have HB := Lib.hid hb0; clear hb0
  go_enter Try.func13, Try.ntmps13
  go_wp2_with fail
  refine (box_any 2 (-1) _ (by unfold I64; omega) (by unfold I64; omega)).mono ?_
  rintro e w' ⟨rfl, hb⟩
  rw [HB.out]
  go_wp2_with fail
  go_ret
  exact ⟨rfl, hb⟩

theorem neqValB (x y x' y' : Int) (w : World) : (binOp .eql 23 (.agg #[.int .i64 x, .int .i64 y]) (.agg #[.int .i64 x', .int .i64 y'])).run Try.prog w = .ok (.bool (decide ((x, y) = (x', y')))) w := by
  have u3 := Try.underlying3
  have a3 := Try.isAgg3
  have z3 := Try.sizeOf3
  have hS : Try.prog.underlying 23 = some (.struct (Try.prog.fieldsOf 23)) := by kernel_rfl
  have hp : Try.prog.stoodInHeld 23 = false := by kernel_rfl
  rw [run_eql_struct, show (10000 : Nat) = 9999 + 1 from rfl, run_equalIn_agg w 9999 23 _ _ hS hp]
  simp only [Program.fieldsOf, Try.underlying23]
  go_simp
  by_cases h1 : x = x' <;> by_cases h2 : y = y' <;> simp [h1, h2]

end Go.Proofs.Ytpkccpegdpodoaa

/-
  Go's struct types as Lean's (printed by gentypes.py): their cells, their reading, what an element of a slice of them holds.
-/
namespace Go.Proofs.Ytpkccpegdpodoaa
open Go.RowKit

structure Mk where
  cell : Int
  kind : Int
  num : Int
  vals : List Int

instance : Enc Mk where
  sz := 4
  rd w B cs x := ∃ (c_vals : Value), cs = [.int .i64 x.cell] ++ ([.int .i64 x.kind] ++ ([.int .i64 x.num] ++ ([c_vals]))) ∧ I64 x.cell ∧ I64 x.kind ∧ I64 x.num ∧ Enc.rd w B [c_vals] x.vals
  len := by
    rintro w B cs x ⟨c_vals, rfl, h0, h1, h2, h3⟩
    simp only [List.length_append, List.length_cons, List.length_nil]
  keep := by
    rintro w w2 B cs x ⟨c_vals, rfl, h0, h1, h2, h3⟩ hk
    exact ⟨_, rfl, h0, h1, h2, Enc.keep h3 hk⟩
  more := by
    rintro w B B2 cs x ⟨c_vals, rfl, h0, h1, h2, h3⟩ hB
    exact ⟨_, rfl, h0, h1, h2, Enc.more h3 hB⟩

theorem At.mk_ {w : World} {B : Nat} {A : Option Addr} {l : List Mk} {k : Nat} (h : At w B A l) (hk : k < l.length) :
    ∃ b o x A_vals c_vals, A = some ⟨b, o, none⟩ ∧ b < B ∧ l[k]? = some x ∧ w.cell? ⟨b, o + k * 4, none⟩ = some (.int .i64 x.cell) ∧ w.cell? ⟨b, o + k * 4 + 1, none⟩ = some (.int .i64 x.kind) ∧ w.cell? ⟨b, o + k * 4 + 2, none⟩ = some (.int .i64 x.num) ∧ w.cell? ⟨b, o + k * 4 + 3, none⟩ = some (.slice A_vals x.vals.length c_vals) ∧ At w B A_vals x.vals ∧ (x.vals.length ≤ c_vals ∧ c_vals ≤ maxLen) ∧ I64 x.cell ∧ I64 x.kind ∧ I64 x.num := by
  obtain ⟨x, hx⟩ : ∃ x, l[k]? = some x := ⟨l[k], List.getElem?_eq_getElem hk⟩
  obtain ⟨b, o, cs, rfl, hb, hc, hr⟩ := h k x hx
  obtain ⟨c_vals, rfl, h0, h1, h2, h3⟩ := hr
  obtain ⟨A_vals, d_vals, e3, l1_vals, l2_vals, -, at_vals⟩ := h3
  injection e3 with e3; subst e3
  exact ⟨b, o, x, A_vals, d_vals, rfl, hb, hx, hc 0 _ rfl, hc 1 _ rfl, hc 2 _ rfl, hc 3 _ rfl, at_vals, ⟨l1_vals, l2_vals⟩, h0, h1, h2⟩

structure Ex where
  at_ : Int
  steps : Int
  sets : List (Int × Int)
  makes : List Mk

instance : Enc Ex where
  sz := 4
  rd w B cs x := ∃ (c_sets : Value) (c_makes : Value), cs = [.int .i64 x.at_] ++ ([.int .i64 x.steps] ++ ([c_sets] ++ ([c_makes]))) ∧ I64 x.at_ ∧ I64 x.steps ∧ Enc.rd w B [c_sets] x.sets ∧ Enc.rd w B [c_makes] x.makes
  len := by
    rintro w B cs x ⟨c_sets, c_makes, rfl, h0, h1, h2, h3⟩
    simp only [List.length_append, List.length_cons, List.length_nil]
  keep := by
    rintro w w2 B cs x ⟨c_sets, c_makes, rfl, h0, h1, h2, h3⟩ hk
    exact ⟨_, _, rfl, h0, h1, Enc.keep h2 hk, Enc.keep h3 hk⟩
  more := by
    rintro w B B2 cs x ⟨c_sets, c_makes, rfl, h0, h1, h2, h3⟩ hB
    exact ⟨_, _, rfl, h0, h1, Enc.more h2 hB, Enc.more h3 hB⟩

theorem At.ex_ {w : World} {B : Nat} {A : Option Addr} {l : List Ex} {k : Nat} (h : At w B A l) (hk : k < l.length) :
    ∃ b o x A_sets c_sets A_makes c_makes, A = some ⟨b, o, none⟩ ∧ b < B ∧ l[k]? = some x ∧ w.cell? ⟨b, o + k * 4, none⟩ = some (.int .i64 x.at_) ∧ w.cell? ⟨b, o + k * 4 + 1, none⟩ = some (.int .i64 x.steps) ∧ w.cell? ⟨b, o + k * 4 + 2, none⟩ = some (.slice A_sets x.sets.length c_sets) ∧ w.cell? ⟨b, o + k * 4 + 3, none⟩ = some (.slice A_makes x.makes.length c_makes) ∧ At w B A_sets x.sets ∧ (x.sets.length ≤ c_sets ∧ c_sets ≤ maxLen) ∧ At w B A_makes x.makes ∧ (x.makes.length ≤ c_makes ∧ c_makes ≤ maxLen) ∧ I64 x.at_ ∧ I64 x.steps := by
  obtain ⟨x, hx⟩ : ∃ x, l[k]? = some x := ⟨l[k], List.getElem?_eq_getElem hk⟩
  obtain ⟨b, o, cs, rfl, hb, hc, hr⟩ := h k x hx
  obtain ⟨c_sets, c_makes, rfl, h0, h1, h2, h3⟩ := hr
  obtain ⟨A_sets, d_sets, e2, l1_sets, l2_sets, -, at_sets⟩ := h2
  injection e2 with e2; subst e2
  obtain ⟨A_makes, d_makes, e3, l1_makes, l2_makes, -, at_makes⟩ := h3
  injection e3 with e3; subst e3
  exact ⟨b, o, x, A_sets, d_sets, A_makes, d_makes, rfl, hb, hx, hc 0 _ rfl, hc 1 _ rfl, hc 2 _ rfl, hc 3 _ rfl, at_sets, ⟨l1_sets, l2_sets⟩, at_makes, ⟨l1_makes, l2_makes⟩, h0, h1⟩

structure Fr where
  fn : Int
  at_ : Int
  fto : Int
  gen : Int
  self : (Int × Int)
  regs : List (Int × Int)
  tries : List (Int × Int)

instance : Enc Fr where
  sz := 8
  rd w B cs x := ∃ (c_regs : Value) (c_tries : Value), cs = [.int .i64 x.fn] ++ ([.int .i64 x.at_] ++ ([.int .i64 x.fto] ++ ([.int .i64 x.gen] ++ ([.int .i64 x.self.1, .int .i64 x.self.2] ++ ([c_regs] ++ ([c_tries])))))) ∧ I64 x.fn ∧ I64 x.at_ ∧ I64 x.fto ∧ I64 x.gen ∧ I64 x.self.1 ∧ I64 x.self.2 ∧ Enc.rd w B [c_regs] x.regs ∧ Enc.rd w B [c_tries] x.tries
  len := by
    rintro w B cs x ⟨c_regs, c_tries, rfl, h0, h1, h2, h3, h4, h5, h6, h7⟩
    simp only [List.length_append, List.length_cons, List.length_nil]
  keep := by
    rintro w w2 B cs x ⟨c_regs, c_tries, rfl, h0, h1, h2, h3, h4, h5, h6, h7⟩ hk
    exact ⟨_, _, rfl, h0, h1, h2, h3, h4, h5, Enc.keep h6 hk, Enc.keep h7 hk⟩
  more := by
    rintro w B B2 cs x ⟨c_regs, c_tries, rfl, h0, h1, h2, h3, h4, h5, h6, h7⟩ hB
    exact ⟨_, _, rfl, h0, h1, h2, h3, h4, h5, Enc.more h6 hB, Enc.more h7 hB⟩

theorem At.fr_ {w : World} {B : Nat} {A : Option Addr} {l : List Fr} {k : Nat} (h : At w B A l) (hk : k < l.length) :
    ∃ b o x A_regs c_regs A_tries c_tries, A = some ⟨b, o, none⟩ ∧ b < B ∧ l[k]? = some x ∧ w.cell? ⟨b, o + k * 8, none⟩ = some (.int .i64 x.fn) ∧ w.cell? ⟨b, o + k * 8 + 1, none⟩ = some (.int .i64 x.at_) ∧ w.cell? ⟨b, o + k * 8 + 2, none⟩ = some (.int .i64 x.fto) ∧ w.cell? ⟨b, o + k * 8 + 3, none⟩ = some (.int .i64 x.gen) ∧ w.cell? ⟨b, o + k * 8 + 4, none⟩ = some (.int .i64 x.self.1) ∧ w.cell? ⟨b, o + k * 8 + 5, none⟩ = some (.int .i64 x.self.2) ∧ w.cell? ⟨b, o + k * 8 + 6, none⟩ = some (.slice A_regs x.regs.length c_regs) ∧ w.cell? ⟨b, o + k * 8 + 7, none⟩ = some (.slice A_tries x.tries.length c_tries) ∧ At w B A_regs x.regs ∧ (x.regs.length ≤ c_regs ∧ c_regs ≤ maxLen) ∧ At w B A_tries x.tries ∧ (x.tries.length ≤ c_tries ∧ c_tries ≤ maxLen) ∧ I64 x.fn ∧ I64 x.at_ ∧ I64 x.fto ∧ I64 x.gen ∧ I64 x.self.1 ∧ I64 x.self.2 := by
  obtain ⟨x, hx⟩ : ∃ x, l[k]? = some x := ⟨l[k], List.getElem?_eq_getElem hk⟩
  obtain ⟨b, o, cs, rfl, hb, hc, hr⟩ := h k x hx
  obtain ⟨c_regs, c_tries, rfl, h0, h1, h2, h3, h4, h5, h6, h7⟩ := hr
  obtain ⟨A_regs, d_regs, e6, l1_regs, l2_regs, -, at_regs⟩ := h6
  injection e6 with e6; subst e6
  obtain ⟨A_tries, d_tries, e7, l1_tries, l2_tries, -, at_tries⟩ := h7
  injection e7 with e7; subst e7
  exact ⟨b, o, x, A_regs, d_regs, A_tries, d_tries, rfl, hb, hx, hc 0 _ rfl, hc 1 _ rfl, hc 2 _ rfl, hc 3 _ rfl, hc 4 _ rfl, hc 5 _ rfl, hc 6 _ rfl, hc 7 _ rfl, at_regs, ⟨l1_regs, l2_regs⟩, at_tries, ⟨l1_tries, l2_tries⟩, h0, h1, h2, h3, h4, h5⟩

structure Ce where
  kind : Int
  num : Int
  vals : List (Int × Int)
  frames : List Fr

instance : Enc Ce where
  sz := 4
  rd w B cs x := ∃ (c_vals : Value) (c_frames : Value), cs = [.int .i64 x.kind] ++ ([.int .i64 x.num] ++ ([c_vals] ++ ([c_frames]))) ∧ I64 x.kind ∧ I64 x.num ∧ Enc.rd w B [c_vals] x.vals ∧ Enc.rd w B [c_frames] x.frames
  len := by
    rintro w B cs x ⟨c_vals, c_frames, rfl, h0, h1, h2, h3⟩
    simp only [List.length_append, List.length_cons, List.length_nil]
  keep := by
    rintro w w2 B cs x ⟨c_vals, c_frames, rfl, h0, h1, h2, h3⟩ hk
    exact ⟨_, _, rfl, h0, h1, Enc.keep h2 hk, Enc.keep h3 hk⟩
  more := by
    rintro w B B2 cs x ⟨c_vals, c_frames, rfl, h0, h1, h2, h3⟩ hB
    exact ⟨_, _, rfl, h0, h1, Enc.more h2 hB, Enc.more h3 hB⟩

theorem At.ce_ {w : World} {B : Nat} {A : Option Addr} {l : List Ce} {k : Nat} (h : At w B A l) (hk : k < l.length) :
    ∃ b o x A_vals c_vals A_frames c_frames, A = some ⟨b, o, none⟩ ∧ b < B ∧ l[k]? = some x ∧ w.cell? ⟨b, o + k * 4, none⟩ = some (.int .i64 x.kind) ∧ w.cell? ⟨b, o + k * 4 + 1, none⟩ = some (.int .i64 x.num) ∧ w.cell? ⟨b, o + k * 4 + 2, none⟩ = some (.slice A_vals x.vals.length c_vals) ∧ w.cell? ⟨b, o + k * 4 + 3, none⟩ = some (.slice A_frames x.frames.length c_frames) ∧ At w B A_vals x.vals ∧ (x.vals.length ≤ c_vals ∧ c_vals ≤ maxLen) ∧ At w B A_frames x.frames ∧ (x.frames.length ≤ c_frames ∧ c_frames ≤ maxLen) ∧ I64 x.kind ∧ I64 x.num := by
  obtain ⟨x, hx⟩ : ∃ x, l[k]? = some x := ⟨l[k], List.getElem?_eq_getElem hk⟩
  obtain ⟨b, o, cs, rfl, hb, hc, hr⟩ := h k x hx
  obtain ⟨c_vals, c_frames, rfl, h0, h1, h2, h3⟩ := hr
  obtain ⟨A_vals, d_vals, e2, l1_vals, l2_vals, -, at_vals⟩ := h2
  injection e2 with e2; subst e2
  obtain ⟨A_frames, d_frames, e3, l1_frames, l2_frames, -, at_frames⟩ := h3
  injection e3 with e3; subst e3
  exact ⟨b, o, x, A_vals, d_vals, A_frames, d_frames, rfl, hb, hx, hc 0 _ rfl, hc 1 _ rfl, hc 2 _ rfl, hc 3 _ rfl, at_vals, ⟨l1_vals, l2_vals⟩, at_frames, ⟨l1_frames, l2_frames⟩, h0, h1⟩

structure TI where
  op : Int
  a : Int
  b : Int
  c : Int
  n : Int
  exit : Int
  k : (Int × Int)

instance : Enc TI where
  sz := 8
  rd w B cs x := cs = [.int .i64 x.op] ++ ([.int .i64 x.a] ++ ([.int .i64 x.b] ++ ([.int .i64 x.c] ++ ([.int .i64 x.n] ++ ([.int .i64 x.exit] ++ ([.int .i64 x.k.1, .int .i64 x.k.2])))))) ∧ I64 x.op ∧ I64 x.a ∧ I64 x.b ∧ I64 x.c ∧ I64 x.n ∧ I64 x.exit ∧ I64 x.k.1 ∧ I64 x.k.2
  len h := by rw [h.1]; rfl
  keep h _ := h
  more h _ := h

theorem At.tI_ {w : World} {B : Nat} {A : Option Addr} {l : List TI} {k : Nat} (h : At w B A l) (hk : k < l.length) :
    ∃ b o x, A = some ⟨b, o, none⟩ ∧ b < B ∧ l[k]? = some x ∧ w.cell? ⟨b, o + k * 8, none⟩ = some (.int .i64 x.op) ∧ w.cell? ⟨b, o + k * 8 + 1, none⟩ = some (.int .i64 x.a) ∧ w.cell? ⟨b, o + k * 8 + 2, none⟩ = some (.int .i64 x.b) ∧ w.cell? ⟨b, o + k * 8 + 3, none⟩ = some (.int .i64 x.c) ∧ w.cell? ⟨b, o + k * 8 + 4, none⟩ = some (.int .i64 x.n) ∧ w.cell? ⟨b, o + k * 8 + 5, none⟩ = some (.int .i64 x.exit) ∧ w.cell? ⟨b, o + k * 8 + 6, none⟩ = some (.int .i64 x.k.1) ∧ w.cell? ⟨b, o + k * 8 + 7, none⟩ = some (.int .i64 x.k.2) ∧ I64 x.op ∧ I64 x.a ∧ I64 x.b ∧ I64 x.c ∧ I64 x.n ∧ I64 x.exit ∧ I64 x.k.1 ∧ I64 x.k.2 := by
  obtain ⟨x, hx⟩ : ∃ x, l[k]? = some x := ⟨l[k], List.getElem?_eq_getElem hk⟩
  obtain ⟨b, o, cs, rfl, hb, hc, hr⟩ := h k x hx
  obtain ⟨rfl, h0, h1, h2, h3, h4, h5, h6, h7⟩ := hr
  exact ⟨b, o, x, rfl, hb, hx, hc 0 _ rfl, hc 1 _ rfl, hc 2 _ rfl, hc 3 _ rfl, hc 4 _ rfl, hc 5 _ rfl, hc 6 _ rfl, hc 7 _ rfl, h0, h1, h2, h3, h4, h5, h6, h7⟩

structure TT where
  fn : Int
  at_ : Int
  loop : Int
  ins : List TI
  exits : List Ex
  turn : Ex
  back : Ex

instance : Enc TT where
  sz := 13
  rd w B cs x := ∃ (c_ins : Value) (c_exits : Value) (c_turn : List Value) (c_back : List Value), cs = [.int .i64 x.fn] ++ ([.int .i64 x.at_] ++ ([.int .i64 x.loop] ++ ([c_ins] ++ ([c_exits] ++ (c_turn ++ (c_back)))))) ∧ I64 x.fn ∧ I64 x.at_ ∧ I64 x.loop ∧ Enc.rd w B [c_ins] x.ins ∧ Enc.rd w B [c_exits] x.exits ∧ Enc.rd w B c_turn x.turn ∧ Enc.rd w B c_back x.back
  len := by
    rintro w B cs x ⟨c_ins, c_exits, c_turn, c_back, rfl, h0, h1, h2, h3, h4, h5, h6⟩
    have g5 := Enc.len h5
    have g6 := Enc.len h6
    simp only [List.length_append, List.length_cons, List.length_nil, g5, g6]
    rfl
  keep := by
    rintro w w2 B cs x ⟨c_ins, c_exits, c_turn, c_back, rfl, h0, h1, h2, h3, h4, h5, h6⟩ hk
    exact ⟨_, _, _, _, rfl, h0, h1, h2, Enc.keep h3 hk, Enc.keep h4 hk, Enc.keep h5 hk, Enc.keep h6 hk⟩
  more := by
    rintro w B B2 cs x ⟨c_ins, c_exits, c_turn, c_back, rfl, h0, h1, h2, h3, h4, h5, h6⟩ hB
    exact ⟨_, _, _, _, rfl, h0, h1, h2, Enc.more h3 hB, Enc.more h4 hB, Enc.more h5 hB, Enc.more h6 hB⟩

structure RM where
  cell : (Int × Int)
  kind : Int
  num : Int
  vals : List (Int × Int)

instance : Enc RM where
  sz := 5
  rd w B cs x := ∃ (c_vals : Value), cs = [.int .i64 x.cell.1, .int .i64 x.cell.2] ++ ([.int .i64 x.kind] ++ ([.int .i64 x.num] ++ ([c_vals]))) ∧ I64 x.cell.1 ∧ I64 x.cell.2 ∧ I64 x.kind ∧ I64 x.num ∧ Enc.rd w B [c_vals] x.vals
  len := by
    rintro w B cs x ⟨c_vals, rfl, h0, h1, h2, h3, h4⟩
    simp only [List.length_append, List.length_cons, List.length_nil]
  keep := by
    rintro w w2 B cs x ⟨c_vals, rfl, h0, h1, h2, h3, h4⟩ hk
    exact ⟨_, rfl, h0, h1, h2, h3, Enc.keep h4 hk⟩
  more := by
    rintro w B B2 cs x ⟨c_vals, rfl, h0, h1, h2, h3, h4⟩ hB
    exact ⟨_, rfl, h0, h1, h2, h3, Enc.more h4 hB⟩

theorem At.rM_ {w : World} {B : Nat} {A : Option Addr} {l : List RM} {k : Nat} (h : At w B A l) (hk : k < l.length) :
    ∃ b o x A_vals c_vals, A = some ⟨b, o, none⟩ ∧ b < B ∧ l[k]? = some x ∧ w.cell? ⟨b, o + k * 5, none⟩ = some (.int .i64 x.cell.1) ∧ w.cell? ⟨b, o + k * 5 + 1, none⟩ = some (.int .i64 x.cell.2) ∧ w.cell? ⟨b, o + k * 5 + 2, none⟩ = some (.int .i64 x.kind) ∧ w.cell? ⟨b, o + k * 5 + 3, none⟩ = some (.int .i64 x.num) ∧ w.cell? ⟨b, o + k * 5 + 4, none⟩ = some (.slice A_vals x.vals.length c_vals) ∧ At w B A_vals x.vals ∧ (x.vals.length ≤ c_vals ∧ c_vals ≤ maxLen) ∧ I64 x.cell.1 ∧ I64 x.cell.2 ∧ I64 x.kind ∧ I64 x.num := by
  obtain ⟨x, hx⟩ : ∃ x, l[k]? = some x := ⟨l[k], List.getElem?_eq_getElem hk⟩
  obtain ⟨b, o, cs, rfl, hb, hc, hr⟩ := h k x hx
  obtain ⟨c_vals, rfl, h0, h1, h2, h3, h4⟩ := hr
  obtain ⟨A_vals, d_vals, e4, l1_vals, l2_vals, -, at_vals⟩ := h4
  injection e4 with e4; subst e4
  exact ⟨b, o, x, A_vals, d_vals, rfl, hb, hx, hc 0 _ rfl, hc 1 _ rfl, hc 2 _ rfl, hc 3 _ rfl, hc 4 _ rfl, at_vals, ⟨l1_vals, l2_vals⟩, h0, h1, h2, h3⟩

structure RE where
  at_ : Int
  steps : Int
  sets : List (Int × Int × Int)
  makes : List RM

instance : Enc RE where
  sz := 4
  rd w B cs x := ∃ (c_sets : Value) (c_makes : Value), cs = [.int .i64 x.at_] ++ ([.int .i64 x.steps] ++ ([c_sets] ++ ([c_makes]))) ∧ I64 x.at_ ∧ I64 x.steps ∧ Enc.rd w B [c_sets] x.sets ∧ Enc.rd w B [c_makes] x.makes
  len := by
    rintro w B cs x ⟨c_sets, c_makes, rfl, h0, h1, h2, h3⟩
    simp only [List.length_append, List.length_cons, List.length_nil]
  keep := by
    rintro w w2 B cs x ⟨c_sets, c_makes, rfl, h0, h1, h2, h3⟩ hk
    exact ⟨_, _, rfl, h0, h1, Enc.keep h2 hk, Enc.keep h3 hk⟩
  more := by
    rintro w B B2 cs x ⟨c_sets, c_makes, rfl, h0, h1, h2, h3⟩ hB
    exact ⟨_, _, rfl, h0, h1, Enc.more h2 hB, Enc.more h3 hB⟩

theorem At.rE_ {w : World} {B : Nat} {A : Option Addr} {l : List RE} {k : Nat} (h : At w B A l) (hk : k < l.length) :
    ∃ b o x A_sets c_sets A_makes c_makes, A = some ⟨b, o, none⟩ ∧ b < B ∧ l[k]? = some x ∧ w.cell? ⟨b, o + k * 4, none⟩ = some (.int .i64 x.at_) ∧ w.cell? ⟨b, o + k * 4 + 1, none⟩ = some (.int .i64 x.steps) ∧ w.cell? ⟨b, o + k * 4 + 2, none⟩ = some (.slice A_sets x.sets.length c_sets) ∧ w.cell? ⟨b, o + k * 4 + 3, none⟩ = some (.slice A_makes x.makes.length c_makes) ∧ At w B A_sets x.sets ∧ (x.sets.length ≤ c_sets ∧ c_sets ≤ maxLen) ∧ At w B A_makes x.makes ∧ (x.makes.length ≤ c_makes ∧ c_makes ≤ maxLen) ∧ I64 x.at_ ∧ I64 x.steps := by
  obtain ⟨x, hx⟩ : ∃ x, l[k]? = some x := ⟨l[k], List.getElem?_eq_getElem hk⟩
  obtain ⟨b, o, cs, rfl, hb, hc, hr⟩ := h k x hx
  obtain ⟨c_sets, c_makes, rfl, h0, h1, h2, h3⟩ := hr
  obtain ⟨A_sets, d_sets, e2, l1_sets, l2_sets, -, at_sets⟩ := h2
  injection e2 with e2; subst e2
  obtain ⟨A_makes, d_makes, e3, l1_makes, l2_makes, -, at_makes⟩ := h3
  injection e3 with e3; subst e3
  exact ⟨b, o, x, A_sets, d_sets, A_makes, d_makes, rfl, hb, hx, hc 0 _ rfl, hc 1 _ rfl, hc 2 _ rfl, hc 3 _ rfl, at_sets, ⟨l1_sets, l2_sets⟩, at_makes, ⟨l1_makes, l2_makes⟩, h0, h1⟩

structure RO where
  op : Int
  a : Int
  b : Int
  c : Int
  n : Int
  exit : Int
  k : (Int × Int)

instance : Enc RO where
  sz := 8
  rd w B cs x := cs = [.int .i64 x.op] ++ ([.int .i64 x.a] ++ ([.int .i64 x.b] ++ ([.int .i64 x.c] ++ ([.int .i64 x.n] ++ ([.int .i64 x.exit] ++ ([.int .i64 x.k.1, .int .i64 x.k.2])))))) ∧ I64 x.op ∧ I64 x.a ∧ I64 x.b ∧ I64 x.c ∧ I64 x.n ∧ I64 x.exit ∧ I64 x.k.1 ∧ I64 x.k.2
  len h := by rw [h.1]; rfl
  keep h _ := h
  more h _ := h

theorem At.rO_ {w : World} {B : Nat} {A : Option Addr} {l : List RO} {k : Nat} (h : At w B A l) (hk : k < l.length) :
    ∃ b o x, A = some ⟨b, o, none⟩ ∧ b < B ∧ l[k]? = some x ∧ w.cell? ⟨b, o + k * 8, none⟩ = some (.int .i64 x.op) ∧ w.cell? ⟨b, o + k * 8 + 1, none⟩ = some (.int .i64 x.a) ∧ w.cell? ⟨b, o + k * 8 + 2, none⟩ = some (.int .i64 x.b) ∧ w.cell? ⟨b, o + k * 8 + 3, none⟩ = some (.int .i64 x.c) ∧ w.cell? ⟨b, o + k * 8 + 4, none⟩ = some (.int .i64 x.n) ∧ w.cell? ⟨b, o + k * 8 + 5, none⟩ = some (.int .i64 x.exit) ∧ w.cell? ⟨b, o + k * 8 + 6, none⟩ = some (.int .i64 x.k.1) ∧ w.cell? ⟨b, o + k * 8 + 7, none⟩ = some (.int .i64 x.k.2) ∧ I64 x.op ∧ I64 x.a ∧ I64 x.b ∧ I64 x.c ∧ I64 x.n ∧ I64 x.exit ∧ I64 x.k.1 ∧ I64 x.k.2 := by
  obtain ⟨x, hx⟩ : ∃ x, l[k]? = some x := ⟨l[k], List.getElem?_eq_getElem hk⟩
  obtain ⟨b, o, cs, rfl, hb, hc, hr⟩ := h k x hx
  obtain ⟨rfl, h0, h1, h2, h3, h4, h5, h6, h7⟩ := hr
  exact ⟨b, o, x, rfl, hb, hx, hc 0 _ rfl, hc 1 _ rfl, hc 2 _ rfl, hc 3 _ rfl, hc 4 _ rfl, hc 5 _ rfl, hc 6 _ rfl, hc 7 _ rfl, h0, h1, h2, h3, h4, h5, h6, h7⟩

structure RC where
  fn : Int
  at_ : Int
  loop : Int
  slots : Int
  orders : List RO
  exits : List RE
  turn : RE
  back : RE

instance : Enc RC where
  sz := 14
  rd w B cs x := ∃ (c_orders : Value) (c_exits : Value) (c_turn : List Value) (c_back : List Value), cs = [.int .i64 x.fn] ++ ([.int .i64 x.at_] ++ ([.int .i64 x.loop] ++ ([.int .i64 x.slots] ++ ([c_orders] ++ ([c_exits] ++ (c_turn ++ (c_back))))))) ∧ I64 x.fn ∧ I64 x.at_ ∧ I64 x.loop ∧ I64 x.slots ∧ Enc.rd w B [c_orders] x.orders ∧ Enc.rd w B [c_exits] x.exits ∧ Enc.rd w B c_turn x.turn ∧ Enc.rd w B c_back x.back
  len := by
    rintro w B cs x ⟨c_orders, c_exits, c_turn, c_back, rfl, h0, h1, h2, h3, h4, h5, h6, h7⟩
    have g6 := Enc.len h6
    have g7 := Enc.len h7
    simp only [List.length_append, List.length_cons, List.length_nil, g6, g7]
    rfl
  keep := by
    rintro w w2 B cs x ⟨c_orders, c_exits, c_turn, c_back, rfl, h0, h1, h2, h3, h4, h5, h6, h7⟩ hk
    exact ⟨_, _, _, _, rfl, h0, h1, h2, h3, Enc.keep h4 hk, Enc.keep h5 hk, Enc.keep h6 hk, Enc.keep h7 hk⟩
  more := by
    rintro w B B2 cs x ⟨c_orders, c_exits, c_turn, c_back, rfl, h0, h1, h2, h3, h4, h5, h6, h7⟩ hB
    exact ⟨_, _, _, _, rfl, h0, h1, h2, h3, Enc.more h4 hB, Enc.more h5 hB, Enc.more h6 hB, Enc.more h7 hB⟩

structure Gr where
  has : List (List Int)
  roots : List Int

instance : Enc Gr where
  sz := 2
  rd w B cs x := ∃ (c_has : Value) (c_roots : Value), cs = [c_has] ++ ([c_roots]) ∧ Enc.rd w B [c_has] x.has ∧ Enc.rd w B [c_roots] x.roots
  len := by
    rintro w B cs x ⟨c_has, c_roots, rfl, h0, h1⟩
    simp only [List.length_append, List.length_cons, List.length_nil]
  keep := by
    rintro w w2 B cs x ⟨c_has, c_roots, rfl, h0, h1⟩ hk
    exact ⟨_, _, rfl, Enc.keep h0 hk, Enc.keep h1 hk⟩
  more := by
    rintro w B B2 cs x ⟨c_has, c_roots, rfl, h0, h1⟩ hB
    exact ⟨_, _, rfl, Enc.more h0 hB, Enc.more h1 hB⟩

theorem At.gr_ {w : World} {B : Nat} {A : Option Addr} {l : List Gr} {k : Nat} (h : At w B A l) (hk : k < l.length) :
    ∃ b o x A_has c_has A_roots c_roots, A = some ⟨b, o, none⟩ ∧ b < B ∧ l[k]? = some x ∧ w.cell? ⟨b, o + k * 2, none⟩ = some (.slice A_has x.has.length c_has) ∧ w.cell? ⟨b, o + k * 2 + 1, none⟩ = some (.slice A_roots x.roots.length c_roots) ∧ At w B A_has x.has ∧ (x.has.length ≤ c_has ∧ c_has ≤ maxLen) ∧ At w B A_roots x.roots ∧ (x.roots.length ≤ c_roots ∧ c_roots ≤ maxLen) := by
  obtain ⟨x, hx⟩ : ∃ x, l[k]? = some x := ⟨l[k], List.getElem?_eq_getElem hk⟩
  obtain ⟨b, o, cs, rfl, hb, hc, hr⟩ := h k x hx
  obtain ⟨c_has, c_roots, rfl, h0, h1⟩ := hr
  obtain ⟨A_has, d_has, e0, l1_has, l2_has, -, at_has⟩ := h0
  injection e0 with e0; subst e0
  obtain ⟨A_roots, d_roots, e1, l1_roots, l2_roots, -, at_roots⟩ := h1
  injection e1 with e1; subst e1
  exact ⟨b, o, x, A_has, d_has, A_roots, d_roots, rfl, hb, hx, hc 0 _ rfl, hc 1 _ rfl, at_has, ⟨l1_has, l2_has⟩, at_roots, ⟨l1_roots, l2_roots⟩⟩

structure Hp where
  words : List U64
  roots : List U64

instance : Enc Hp where
  sz := 2
  rd w B cs x := ∃ (c_words : Value) (c_roots : Value), cs = [c_words] ++ ([c_roots]) ∧ Enc.rd w B [c_words] x.words ∧ Enc.rd w B [c_roots] x.roots
  len := by
    rintro w B cs x ⟨c_words, c_roots, rfl, h0, h1⟩
    simp only [List.length_append, List.length_cons, List.length_nil]
  keep := by
    rintro w w2 B cs x ⟨c_words, c_roots, rfl, h0, h1⟩ hk
    exact ⟨_, _, rfl, Enc.keep h0 hk, Enc.keep h1 hk⟩
  more := by
    rintro w B B2 cs x ⟨c_words, c_roots, rfl, h0, h1⟩ hB
    exact ⟨_, _, rfl, Enc.more h0 hB, Enc.more h1 hB⟩

theorem At.hp_ {w : World} {B : Nat} {A : Option Addr} {l : List Hp} {k : Nat} (h : At w B A l) (hk : k < l.length) :
    ∃ b o x A_words c_words A_roots c_roots, A = some ⟨b, o, none⟩ ∧ b < B ∧ l[k]? = some x ∧ w.cell? ⟨b, o + k * 2, none⟩ = some (.slice A_words x.words.length c_words) ∧ w.cell? ⟨b, o + k * 2 + 1, none⟩ = some (.slice A_roots x.roots.length c_roots) ∧ At w B A_words x.words ∧ (x.words.length ≤ c_words ∧ c_words ≤ maxLen) ∧ At w B A_roots x.roots ∧ (x.roots.length ≤ c_roots ∧ c_roots ≤ maxLen) := by
  obtain ⟨x, hx⟩ : ∃ x, l[k]? = some x := ⟨l[k], List.getElem?_eq_getElem hk⟩
  obtain ⟨b, o, cs, rfl, hb, hc, hr⟩ := h k x hx
  obtain ⟨c_words, c_roots, rfl, h0, h1⟩ := hr
  obtain ⟨A_words, d_words, e0, l1_words, l2_words, -, at_words⟩ := h0
  injection e0 with e0; subst e0
  obtain ⟨A_roots, d_roots, e1, l1_roots, l2_roots, -, at_roots⟩ := h1
  injection e1 with e1; subst e1
  exact ⟨b, o, x, A_words, d_words, A_roots, d_roots, rfl, hb, hx, hc 0 _ rfl, hc 1 _ rfl, at_words, ⟨l1_words, l2_words⟩, at_roots, ⟨l1_roots, l2_roots⟩⟩

structure De where
  do_ : Int
  a : Int
  b : Int
  n : Int

instance : Enc De where
  sz := 4
  rd w B cs x := cs = [.int .i64 x.do_] ++ ([.int .i64 x.a] ++ ([.int .i64 x.b] ++ ([.int .i64 x.n]))) ∧ I64 x.do_ ∧ I64 x.a ∧ I64 x.b ∧ I64 x.n
  len h := by rw [h.1]; rfl
  keep h _ := h
  more h _ := h

theorem At.de_ {w : World} {B : Nat} {A : Option Addr} {l : List De} {k : Nat} (h : At w B A l) (hk : k < l.length) :
    ∃ b o x, A = some ⟨b, o, none⟩ ∧ b < B ∧ l[k]? = some x ∧ w.cell? ⟨b, o + k * 4, none⟩ = some (.int .i64 x.do_) ∧ w.cell? ⟨b, o + k * 4 + 1, none⟩ = some (.int .i64 x.a) ∧ w.cell? ⟨b, o + k * 4 + 2, none⟩ = some (.int .i64 x.b) ∧ w.cell? ⟨b, o + k * 4 + 3, none⟩ = some (.int .i64 x.n) ∧ I64 x.do_ ∧ I64 x.a ∧ I64 x.b ∧ I64 x.n := by
  obtain ⟨x, hx⟩ : ∃ x, l[k]? = some x := ⟨l[k], List.getElem?_eq_getElem hk⟩
  obtain ⟨b, o, cs, rfl, hb, hc, hr⟩ := h k x hx
  obtain ⟨rfl, h0, h1, h2, h3⟩ := hr
  exact ⟨b, o, x, rfl, hb, hx, hc 0 _ rfl, hc 1 _ rfl, hc 2 _ rfl, hc 3 _ rfl, h0, h1, h2, h3⟩

end Go.Proofs.Ytpkccpegdpodoaa

/- A heap that moves: the plain functions: places, what fits, what is moved where. -/
namespace Go.Proofs.Ytpkccpegdpodoaa
open Go.RowKit

namespace Hau
def wat (ws : List U64) (k : Nat) : U64 := ws.getD k ⟨0⟩
def lg (x : U64) : Nat := (x.val % 4294967296).toNat
/-- the place that a word tells -/
def refOf (x : U64) : Option Nat := match unbL x.val with | some (k, n) => if k = 5 then some n.toNat else none | none => none
def fits (pl : List Nat) (x : U64) : Bool := match unbL x.val with | some (k, n) => decide (k ≠ 5) || pl.contains n.toNat | none => false
def sz (ws : List U64) (p : Nat) : Nat := 1 + lg (wat ws p)
def objs (ws : List U64) : Nat → Nat → List Nat
  | 0, _ => []
  | f + 1, p => if p < ws.length then p :: objs ws f (p + sz ws p) else []
def oend (ws : List U64) : Nat → Nat → Nat
  | 0, p => p
  | f + 1, p => if p < ws.length then oend ws f (p + sz ws p) else p
def places (ws : List U64) : List Nat := objs ws (ws.length + 1) 0
def okW (ws : List U64) : Bool := oend ws (ws.length + 1) 0 == ws.length
def wordsOk (ws : List U64) : Bool := (List.range ws.length).all fun i => (places ws).contains i || fits (places ws) (wat ws i)
def rootsOk (ws roots : List U64) : Bool := roots.all (fits (places ws))
def heapErr (h : Hp) : Int := if 2000 < h.words.length ∨ 100 < h.roots.length then 2 else if okW h.words = false then 3 else if wordsOk h.words = false then 3 else if rootsOk h.words h.roots = false then 3 else 0

theorem sz_pos (ws : List U64) (p : Nat) : 1 ≤ sz ws p := by unfold sz; omega
theorem objs_done {ws : List U64} {f p : Nat} (h : ws.length ≤ p) : objs ws f p = [] := by
  cases f with
  | zero => rfl
  | succ f => unfold objs; rw [if_neg (by omega)]
theorem oend_done {ws : List U64} {f p : Nat} (h : ws.length ≤ p) : oend ws f p = p := by
  cases f with
  | zero => rfl
  | succ f => unfold oend; rw [if_neg (by omega)]
theorem objs_step {ws : List U64} {f p : Nat} (h : p < ws.length) (hf : ws.length < f + p) : ∃ f', objs ws f p = p :: objs ws f' (p + sz ws p) ∧ oend ws f p = oend ws f' (p + sz ws p) ∧ (ws.length < f' + (p + sz ws p)) := by
  cases f with
  | zero => omega
  | succ f =>
    have := sz_pos ws p
    exact ⟨f, by rw [objs, if_pos h], by rw [oend, if_pos h], by omega⟩
/-- the objects from p on: rising, within, as long as what is left -/
theorem objs_spec (ws : List U64) : ∀ f p, ws.length < f + p → oend ws f p = ws.length → (∀ q ∈ objs ws f p, p ≤ q ∧ q + sz ws q ≤ ws.length) ∧ (objs ws f p).Pairwise (· < ·) ∧ ((objs ws f p).map (sz ws)).sum + p = ws.length
  | 0, p, hf, he => by
    unfold oend at he
    omega
  | f + 1, p, hf, he => by
    by_cases h : p < ws.length
    · have hp := sz_pos ws p
      unfold oend at he
      rw [if_pos h] at he
      obtain ⟨h1, h2, h3⟩ := objs_spec ws f (p + sz ws p) (by omega) he
      unfold objs
      rw [if_pos h]
      refine ⟨fun q hq => ?_, List.pairwise_cons.2 ⟨fun q hq => by have := (h1 q hq).1; omega, h2⟩, by rw [List.map_cons, List.sum_cons]; omega⟩
      rcases List.mem_cons.1 hq with rfl | hq
      · refine ⟨Nat.le_refl _, ?_⟩
        have : 0 ≤ ((objs ws f (q + sz ws q)).map (sz ws)).sum := Nat.zero_le _
        omega
      · have := h1 q hq
        exact ⟨by omega, this.2⟩
    · rw [objs_done (by omega)]
      rw [oend_done (by omega)] at he
      exact ⟨by simp, List.Pairwise.nil, by simp; exact he⟩
theorem places_spec {ws : List U64} (h : okW ws = true) : (∀ q ∈ places ws, q + sz ws q ≤ ws.length) ∧ (places ws).Nodup ∧ ((places ws).map (sz ws)).sum = ws.length := by
  unfold okW at h
  obtain ⟨h1, h2, h3⟩ := objs_spec ws (ws.length + 1) 0 (by omega) (by simpa using h)
  exact ⟨fun q hq => (h1 q hq).2, h2.imp (fun h => by omega), h3⟩
/-- a list without doubles within another one: its sum is no greater -/
theorem sum_sub (g : Nat → Nat) : ∀ (F P : List Nat), F.Nodup → (∀ p ∈ F, p ∈ P) → (F.map g).sum ≤ (P.map g).sum
  | [], _, _, _ => by simp
  | p :: F, P, hn, hs => by
    have hp := hs p (List.mem_cons_self ..)
    have hperm := List.perm_cons_erase hp
    have h1 := sum_sub g F (P.erase p) (List.nodup_cons.1 hn).2 (fun q hq => by
      have hne : q ≠ p := fun e => (List.nodup_cons.1 hn).1 (e ▸ hq)
      exact (List.mem_erase_of_ne hne).2 (hs q (List.mem_cons_of_mem _ hq)))
    have h2 : (P.map g).sum = g p + ((P.erase p).map g).sum := by
      rw [(hperm.map g).sum_nat, List.map_cons, List.sum_cons]
    rw [List.map_cons, List.sum_cons]
    omega

/-! ### what is moved -/
def obj (ws : List U64) (p : Nat) : List U64 := (ws.drop p).take (sz ws p)
def raw (ws : List U64) (F : List Nat) : List U64 := F.flatMap (obj ws)
def add (F : List Nat) (p : Nat) : List Nat := if F.contains p = true then F else F ++ [p]
def posOf (ws : List U64) (F : List Nat) (p : Nat) : Nat := ((F.takeWhile (fun q => q != p)).map (sz ws)).sum
def cum (ws : List U64) : Nat → List Nat → List (Nat × Nat)
  | _, [] => []
  | a, p :: F => (a, p) :: cum ws (a + sz ws p) F
def refW (t : Nat) : U64 := ⟨(boxL 5 t).1⟩
def addW (F : List Nat) (x : U64) : List Nat := match refOf x with | none => F | some p => add F p
def trn (ws : List U64) (F : List Nat) (x : U64) : U64 := match refOf x with | none => x | some p => refW (posOf ws F p)
/-- places that a list of them grows by, those that words tell -/
def addAll (F : List Nat) (l : List U64) : List Nat := l.foldl addW F

theorem add_mem {F : List Nat} {p : Nat} : p ∈ add F p := by
  unfold add; split
  · rename_i h; exact List.contains_iff_mem.1 h
  · simp
theorem add_pre (F : List Nat) (p : Nat) : ∃ X, add F p = F ++ X := by
  unfold add; split
  · exact ⟨[], by simp⟩
  · exact ⟨[p], rfl⟩
theorem add_nodup {F : List Nat} {p : Nat} (h : F.Nodup) : (add F p).Nodup := by
  unfold add; split
  · exact h
  · rename_i hc
    have : p ∉ F := fun hm => hc (List.contains_iff_mem.2 hm)
    exact List.nodup_append.2 ⟨h, by simp, by intro a ha b hb; simp at hb; subst hb; intro e; subst e; exact this ha⟩
theorem addW_pre (F : List Nat) (x : U64) : ∃ X, addW F x = F ++ X := by
  unfold addW; split
  · exact ⟨[], by simp⟩
  · exact add_pre F _
theorem addW_nodup {F : List Nat} {x : U64} (h : F.Nodup) : (addW F x).Nodup := by
  unfold addW; split
  · exact h
  · exact add_nodup h
theorem fits_ref {pl : List Nat} {x : U64} {p : Nat} (h : fits pl x = true) (hr : refOf x = some p) : p ∈ pl := by
  unfold fits at h
  unfold refOf at hr
  split at hr
  · rename_i k n he
    rw [he] at h
    split at hr
    · rename_i hk
      injection hr with hr
      subst hr
      simp only [hk, ne_eq, not_true_eq_false, decide_false, Bool.false_or] at h
      exact List.contains_iff_mem.1 h
    · cases hr
  · cases hr
theorem addW_sub {F pl : List Nat} {x : U64} (h : ∀ p ∈ F, p ∈ pl) (hf : fits pl x = true) : ∀ p ∈ addW F x, p ∈ pl := by
  intro p hp
  unfold addW at hp
  split at hp
  · exact h p hp
  · rename_i q hq
    unfold add at hp
    split at hp
    · exact h p hp
    · rcases List.mem_append.1 hp with hp | hp
      · exact h p hp
      · simp at hp; subst hp; exact fits_ref hf hq
theorem addAll_snoc {F : List Nat} {l : List U64} {k : Nat} {x : U64} (h : l[k]? = some x) : addAll F (l.take (k + 1)) = addW (addAll F (l.take k)) x := by
  unfold addAll; rw [List.take_add_one, h, Option.toList_some, List.foldl_append]; rfl
theorem addAll_pre : ∀ (l : List U64) (F : List Nat), ∃ X, addAll F l = F ++ X
  | [], F => ⟨[], by simp [addAll]⟩
  | x :: l, F => by
    obtain ⟨X, hX⟩ := addW_pre F x
    obtain ⟨Y, hY⟩ := addAll_pre l (F ++ X)
    exact ⟨X ++ Y, by unfold addAll at hY ⊢; rw [List.foldl_cons, hX, hY, List.append_assoc]⟩
theorem addAll_nodup : ∀ (l : List U64) {F : List Nat}, F.Nodup → (addAll F l).Nodup
  | [], _, h => h
  | x :: l, F, h => by unfold addAll; rw [List.foldl_cons]; exact addAll_nodup l (addW_nodup h)
theorem addAll_sub {pl : List Nat} : ∀ (l : List U64) {F : List Nat}, (∀ p ∈ F, p ∈ pl) → (∀ x ∈ l, fits pl x = true) → ∀ p ∈ addAll F l, p ∈ pl
  | [], _, h, _ => h
  | x :: l, F, h, hf => by unfold addAll; rw [List.foldl_cons]; exact addAll_sub l (addW_sub h (hf x (by simp))) (fun y hy => hf y (by simp [hy]))

theorem obj_length {ws : List U64} {p : Nat} (h : p + sz ws p ≤ ws.length) : (obj ws p).length = sz ws p := by
  unfold obj; rw [List.length_take, List.length_drop]; omega
theorem raw_length {ws : List U64} : ∀ {F : List Nat}, (∀ p ∈ F, p + sz ws p ≤ ws.length) → (raw ws F).length = (F.map (sz ws)).sum
  | [], _ => rfl
  | p :: F, h => by
    unfold raw
    rw [List.flatMap_cons, List.length_append, obj_length (h p (by simp)), List.map_cons, List.sum_cons]
    have := raw_length (F := F) (fun q hq => h q (by simp [hq]))
    unfold raw at this
    omega
theorem raw_append (ws : List U64) (F X : List Nat) : raw ws (F ++ X) = raw ws F ++ raw ws X := by unfold raw; rw [List.flatMap_append]
theorem cum_append (ws : List U64) : ∀ (F X : List Nat) (a : Nat), cum ws a (F ++ X) = cum ws a F ++ cum ws (a + (F.map (sz ws)).sum) X
  | [], X, a => by simp [cum]
  | p :: F, X, a => by
    rw [List.cons_append, cum, cum, cum_append ws F X, List.map_cons, List.sum_cons, List.cons_append, Nat.add_assoc]
theorem cum_length (ws : List U64) : ∀ (F : List Nat) (a : Nat), (cum ws a F).length = F.length
  | [], _ => rfl
  | p :: F, a => by rw [cum, List.length_cons, List.length_cons, cum_length ws F]
theorem takeWhile_all {α : Type} (p : α → Bool) : ∀ l : List α, (∀ x ∈ l, p x = true) → l.takeWhile p = l
  | [], _ => rfl
  | x :: l, h => by rw [List.takeWhile_cons, if_pos (h x (by simp)), takeWhile_all p l (fun y hy => h y (by simp [hy]))]
theorem posOf_new {ws : List U64} {F : List Nat} {p : Nat} (h : p ∉ F) : posOf ws F p = (F.map (sz ws)).sum := by
  unfold posOf
  rw [takeWhile_all (fun q => q != p) F]
  intro q hq
  simp only [bne_iff_ne, ne_eq]
  intro e; subst e; exact h hq
theorem posOf_app {ws : List U64} {F X : List Nat} {p : Nat} (h : p ∈ F) : posOf ws (F ++ X) p = posOf ws F p := by
  unfold posOf
  congr 2
  induction F with
  | nil => cases h
  | cons q F ih =>
    rw [List.cons_append, List.takeWhile_cons, List.takeWhile_cons]
    by_cases hq : q = p
    · simp [hq]
    · have : (q != p) = true := by simpa using hq
      rw [this]
      rcases List.mem_cons.1 h with h | h
      · exact absurd h.symm hq
      · simp only [if_true, ih h]
/-- the map of what was moved -/
def mapD (ws : List U64) (F : List Nat) : DataW Unit := (cum ws 0 F).foldl (fun D m => D.put (.int .i64 (m.2 : Int)) (.lit (.int .i64 (m.1 : Int)))) (.map [])
theorem mapD_snoc (ws : List U64) (F : List Nat) (p : Nat) : mapD ws (F ++ [p]) = (mapD ws F).put (.int .i64 (p : Int)) (.lit (.int .i64 ((F.map (sz ws)).sum : Int))) := by
  unfold mapD
  rw [cum_append, List.foldl_append]
  simp [cum]
theorem mapD_isMap (ws : List U64) : ∀ F : List Nat, Maps.IsMap (mapD ws F) := by
  intro F
  unfold mapD
  have key : ∀ (l : List (Nat × Nat)) (D : DataW Unit), Maps.IsMap D → Maps.IsMap (l.foldl (fun D m => D.put (.int .i64 (m.2 : Int)) (.lit (.int .i64 (m.1 : Int)))) D) := by
    intro l
    induction l with
    | nil => intro D h; exact h
    | cons m l ih => intro D h; rw [List.foldl_cons]; exact ih _ (h.put _ _)
  exact key _ _ Maps.isMap_empty
theorem mapD_spec (ws : List U64) (p : Nat) : ∀ n (F : List Nat), F.length = n → F.Nodup → Maps.has (mapD ws F) (.int .i64 (p : Int)) = F.contains p ∧ (p ∈ F → ∀ z, (mapD ws F).atKey (.int .i64 (p : Int)) z = .lit (.int .i64 (posOf ws F p : Int)))
  | 0, F, hn, _ => by
    have := List.eq_nil_of_length_eq_zero hn
    subst this
    exact ⟨rfl, fun h => by cases h⟩
  | n + 1, F, hn, hnd => by
    rcases List.eq_nil_or_concat F with rfl | ⟨G, q, rfl⟩
    · simp at hn
    rw [List.concat_eq_append] at hn hnd ⊢
    have hG : G.length = n := by simpa using hn
    have hnd' := List.nodup_append.1 hnd
    have hqG : q ∉ G := fun h => hnd'.2.2 q h q (by simp) rfl
    obtain ⟨ih1, ih2⟩ := mapD_spec ws p n G hG hnd'.1
    rw [mapD_snoc]
    by_cases hpq : p = q
    · subst hpq
      refine ⟨?_, fun _ z => ?_⟩
      · rw [Maps.has_put_same (mapD_isMap ws G) (show WideAt.IsKeyLit (.int .i64 (p : Int)) from trivial)]
        simp
      · rw [Maps.atKey_put_same (mapD_isMap ws G) (show WideAt.IsKeyLit (.int .i64 (p : Int)) from trivial)]
        congr 2
        unfold posOf
        congr 3
        rw [List.takeWhile_append_of_pos (by intro u hu; simp only [bne_iff_ne, ne_eq]; intro e; subst e; exact hqG hu), List.takeWhile_cons]
        simp
    · have hne : Lit.int .i64 (p : Int) ≠ Lit.int .i64 (q : Int) := by intro e; injection e with _ e; omega
      refine ⟨?_, fun hm z => ?_⟩
      · rw [Maps.has_put_other hne, ih1]
        rw [Bool.eq_iff_iff, List.contains_iff_mem, List.contains_iff_mem]
        simp [hpq]
      · rw [Maps.atKey_put_other hne]
        have hpG : p ∈ G := by
          rcases List.mem_append.1 hm with h | h
          · exact h
          · simp at h; exact absurd h hpq
        rw [ih2 hpG z, posOf_app hpG]
end Hau

end Go.Proofs.Ytpkccpegdpodoaa

/- A heap that moves: what a collection leaves, step by step. -/
namespace Go.Proofs.Ytpkccpegdpodoaa
open Go.RowKit

namespace Hau
def tail (ws : List U64) (p : Nat) : List U64 := (obj ws p).drop 1
/-- an object of which the first q words behind its first one are turned -/
def pobj (ws : List U64) (F : List Nat) (q p : Nat) : List U64 := (obj ws p).take 1 ++ ((tail ws p).take q).map (trn ws F) ++ (tail ws p).drop q
def tobj (ws : List U64) (F : List Nat) (p : Nat) : List U64 := (obj ws p).take 1 ++ (tail ws p).map (trn ws F)
/-- all that words tell is among some places -/
def known (F : List Nat) (l : List U64) : Prop := ∀ x ∈ l, ∀ r, refOf x = some r → r ∈ F
theorem known.app {F X : List Nat} {l : List U64} (h : known F l) : known (F ++ X) l := fun x hx r hr => List.mem_append.2 (.inl (h x hx r hr))
theorem trn_app {ws : List U64} {F X : List Nat} {x : U64} (h : ∀ r, refOf x = some r → r ∈ F) : trn ws (F ++ X) x = trn ws F x := by
  unfold trn
  split
  · rfl
  · rename_i p hp
    rw [posOf_app (h p hp)]
theorem map_trn_app {ws : List U64} {F X : List Nat} {l : List U64} (h : known F l) : l.map (trn ws (F ++ X)) = l.map (trn ws F) := List.map_congr_left fun x hx => trn_app (h x hx)
theorem addW_known {F : List Nat} {x : U64} : ∀ r, refOf x = some r → r ∈ addW F x := by
  intro r hr
  unfold addW
  rw [hr]
  exact add_mem
theorem addAll_known : ∀ (l : List U64) (F : List Nat), known (addAll F l) l
  | [], _ => fun x hx => by cases hx
  | x :: l, F => by
    intro y hy r hr
    unfold addAll
    rw [List.foldl_cons]
    rcases List.mem_cons.1 hy with rfl | hy
    · obtain ⟨X, hX⟩ := addAll_pre l (addW F y)
      unfold addAll at hX
      rw [hX]
      exact List.mem_append.2 (.inl (addW_known r hr))
    · exact addAll_known l (addW F x) y hy r hr
theorem tobj_app {ws : List U64} {F X : List Nat} {p : Nat} (h : known F (tail ws p)) : tobj ws (F ++ X) p = tobj ws F p := by
  unfold tobj; rw [map_trn_app h]
theorem pobj_zero (ws : List U64) (F : List Nat) (p : Nat) : pobj ws F 0 p = obj ws p := by
  unfold pobj tail
  rw [List.take_zero, List.map_nil, List.append_nil, List.drop_zero, List.take_append_drop]
theorem pobj_full {ws : List U64} {F : List Nat} {p q : Nat} (h : (tail ws p).length ≤ q) : pobj ws F q p = tobj ws F p := by
  unfold pobj tobj; rw [List.take_of_length_le h, List.drop_eq_nil_of_le h, List.append_nil]
theorem tail_length {ws : List U64} {p : Nat} (h : p + sz ws p ≤ ws.length) : (tail ws p).length = lg (wat ws p) := by
  unfold tail; rw [List.length_drop, obj_length h]; unfold sz; omega
theorem tobj_length {ws : List U64} {F : List Nat} {p : Nat} (h : p + sz ws p ≤ ws.length) : (tobj ws F p).length = sz ws p := by
  unfold tobj
  have := sz_pos ws p
  rw [List.length_append, List.length_map, tail_length h, List.length_take, obj_length h]; unfold sz; omega
theorem pobj_length {ws : List U64} {F : List Nat} {p q : Nat} (h : p + sz ws p ≤ ws.length) : (pobj ws F q p).length = sz ws p := by
  unfold pobj
  have := sz_pos ws p
  have ht := tail_length h
  rw [List.length_append, List.length_append, List.length_map, List.length_take, List.length_take, List.length_drop, ht, obj_length h]; unfold sz; omega
theorem tobjs_length {ws : List U64} {F : List Nat} : ∀ {G : List Nat}, (∀ p ∈ G, p + sz ws p ≤ ws.length) → (G.flatMap (tobj ws F)).length = (G.map (sz ws)).sum
  | [], _ => rfl
  | p :: G, h => by
    rw [List.flatMap_cons, List.length_append, tobj_length (h p (by simp)), List.map_cons, List.sum_cons, tobjs_length (fun q hq => h q (by simp [hq]))]

/-- the words while object p is turned: G are done, R wait -/
def cont (ws : List U64) (G : List Nat) (p : Nat) (R : List Nat) (q : Nat) : List U64 := G.flatMap (tobj ws (G ++ p :: R)) ++ pobj ws (G ++ p :: R) q p ++ raw ws R

theorem obj_head {ws : List U64} {p : Nat} (h : p + sz ws p ≤ ws.length) : (obj ws p)[0]? = some (wat ws p) := by
  have := sz_pos ws p
  unfold obj wat
  rw [List.getElem?_take, if_pos (by omega), List.getElem?_drop, Nat.add_zero, List.getD_eq_getElem?_getD, List.getElem?_eq_getElem (by omega)]; rfl
/-- the word that is turned next -/
theorem cont_get {ws : List U64} {G R : List Nat} {p q : Nat} {x : U64} (hG : ∀ p ∈ G, p + sz ws p ≤ ws.length) (hp : p + sz ws p ≤ ws.length) (hx : (tail ws p)[q]? = some x) :
    (cont ws G p R q)[(G.map (sz ws)).sum + (1 + q)]? = some x := by
  have hl := tobjs_length (F := G ++ p :: R) hG
  have hs := sz_pos ws p
  have hq := (List.getElem?_eq_some_iff.1 hx).1
  unfold cont
  rw [List.append_assoc, List.getElem?_append_right (by omega), hl, Nat.add_sub_cancel_left]
  have h1 : ((obj ws p).take 1).length = 1 := by rw [List.length_take, obj_length hp]; omega
  have h2 : (((tail ws p).take q).map (trn ws (G ++ p :: R))).length = q := by rw [List.length_map, List.length_take]; omega
  unfold pobj
  rw [List.append_assoc, List.append_assoc, List.getElem?_append_right (by omega), h1, Nat.add_sub_cancel_left, List.getElem?_append_right (by omega), h2, Nat.sub_self, List.getElem?_append_left (by rw [List.length_drop]; omega), List.getElem?_drop, Nat.add_zero]
  exact hx
theorem cont_head {ws : List U64} {G R : List Nat} {p q : Nat} (hG : ∀ p ∈ G, p + sz ws p ≤ ws.length) (hp : p + sz ws p ≤ ws.length) : (cont ws G p R q)[(G.map (sz ws)).sum]? = some (wat ws p) := by
  have hl := tobjs_length (F := G ++ p :: R) hG
  have hs := sz_pos ws p
  have h1 : ((obj ws p).take 1).length = 1 := by rw [List.length_take, obj_length hp]; omega
  unfold cont
  rw [List.append_assoc, List.getElem?_append_right (by omega), hl, Nat.sub_self]
  unfold pobj
  rw [List.append_assoc, List.append_assoc, List.getElem?_append_left (by omega), List.getElem?_take, if_pos (by omega)]
  exact obj_head hp
theorem set_app_right {α : Type} (A B : List α) (i : Nat) (x : α) : (A ++ B).set (A.length + i) x = A ++ B.set i x := by
  rw [List.set_append_right _ _ (by omega), Nat.add_sub_cancel_left]
/-- a step: a word is turned; what it tells anew is put behind all -/
theorem cont_step {ws : List U64} {G R : List Nat} {p q : Nat} {x : U64} (hG : ∀ p ∈ G, p + sz ws p ≤ ws.length) (hp : p + sz ws p ≤ ws.length) (hx : (tail ws p)[q]? = some x)
    (hk : ∀ g ∈ G, known (G ++ p :: R) (tail ws g)) (hkq : known (G ++ p :: R) ((tail ws p).take q)) (X : List Nat) (hX : addW (G ++ p :: R) x = (G ++ p :: R) ++ X) :
    (cont ws G p R q ++ raw ws X).set ((G.map (sz ws)).sum + (1 + q)) (trn ws (G ++ p :: (R ++ X)) x) = cont ws G p (R ++ X) (q + 1) ∧
      (∀ g ∈ G, known (G ++ p :: (R ++ X)) (tail ws g)) ∧ known (G ++ p :: (R ++ X)) ((tail ws p).take (q + 1)) := by
  have e : G ++ p :: (R ++ X) = (G ++ p :: R) ++ X := by simp
  have hl := tobjs_length (F := G ++ p :: R) hG
  have hs := sz_pos ws p
  have hq := (List.getElem?_eq_some_iff.1 hx).1
  rw [e]
  refine ⟨?_, fun g hg => (hk g hg).app, ?_⟩
  · have hm : G.flatMap (tobj ws ((G ++ p :: R) ++ X)) = G.flatMap (tobj ws (G ++ p :: R)) := by
      rw [List.flatMap_def, List.flatMap_def, List.map_congr_left (fun g hg => tobj_app (X := X) (hk g hg))]
    have h1 : ((obj ws p).take 1).length = 1 := by rw [List.length_take, obj_length hp]; omega
    have h2 : (((tail ws p).take q).map (trn ws (G ++ p :: R))).length = q := by rw [List.length_map, List.length_take]; omega
    have hd : (tail ws p).drop q = x :: (tail ws p).drop (q + 1) := by
      rw [List.drop_eq_getElem_cons hq]
      congr 1
      rw [List.getElem?_eq_getElem hq] at hx
      exact Option.some.inj hx
    unfold cont
    rw [e, hm, raw_append]
    unfold pobj
    have ht : (tail ws p).take (q + 1) = (tail ws p).take q ++ [x] := by rw [List.take_add_one, hx]; rfl
    rw [ht, List.map_append, map_trn_app hkq, hd]
    have eA : G.flatMap (tobj ws (G ++ p :: R)) ++ ((obj ws p).take 1 ++ ((tail ws p).take q).map (trn ws (G ++ p :: R)) ++ x :: (tail ws p).drop (q + 1)) ++ raw ws R ++ raw ws X
        = (G.flatMap (tobj ws (G ++ p :: R)) ++ (obj ws p).take 1 ++ ((tail ws p).take q).map (trn ws (G ++ p :: R))) ++ x :: ((tail ws p).drop (q + 1) ++ raw ws R ++ raw ws X) := by simp
    have lA : (G.flatMap (tobj ws (G ++ p :: R)) ++ (obj ws p).take 1 ++ ((tail ws p).take q).map (trn ws (G ++ p :: R))).length = (G.map (sz ws)).sum + (1 + q) := by
      rw [List.length_append, List.length_append, hl, h1, h2]; omega
    rw [eA, ← lA, List.set_append_right _ _ (Nat.le_refl _), Nat.sub_self, List.set_cons_zero]
    simp
  · rw [List.take_add_one, hx, Option.toList_some]
    intro y hy r hr
    rcases List.mem_append.1 hy with hy | hy
    · exact List.mem_append.2 (.inl (hkq y hy r hr))
    · simp at hy; subst hy; rw [← hX]; exact addW_known r hr
theorem cont_length {ws : List U64} {G R : List Nat} {p q : Nat} (hG : ∀ r ∈ G ++ p :: R, r + sz ws r ≤ ws.length) : (cont ws G p R q).length = ((G ++ p :: R).map (sz ws)).sum := by
  unfold cont
  rw [List.length_append, List.length_append, tobjs_length (fun g hg => hG g (by simp [hg])), pobj_length (hG p (by simp)), raw_length (fun g hg => hG g (by simp [hg])), List.map_append, List.sum_append, List.map_cons, List.sum_cons]
  omega

/-- the order in which objects are told, from the i-th one on -/
def bfs (ws : List U64) : Nat → List Nat → Nat → List Nat
  | 0, F, _ => F
  | f + 1, F, i => if i < F.length then bfs ws f (addAll F (tail ws (F.getD i 0))) (i + 1) else F
def told (ws roots : List U64) : List Nat := bfs ws (ws.length + 1) (addAll [] roots) 0
def newWords (ws roots : List U64) : List U64 := (told ws roots).flatMap (tobj ws (told ws roots))
def newRoots (ws roots : List U64) : List U64 := roots.map (trn ws (told ws roots))
def movesL (ws roots : List U64) : List (Int × Int) := (cum ws 0 (told ws roots)).map fun m => ((m.1 : Int), (m.2 : Int))

theorem wordsOk_tail {ws : List U64} (hok : okW ws = true) (hw : wordsOk ws = true) {p : Nat} (hp : p ∈ places ws) : ∀ x ∈ tail ws p, fits (places ws) x = true := by
  have hsp := places_spec hok
  intro x hx
  obtain ⟨i, hi⟩ := List.mem_iff_getElem?.1 hx
  have hb := hsp.1 p hp
  have hil : i < (tail ws p).length := (List.getElem?_eq_some_iff.1 hi).1
  rw [tail_length hb] at hil
  unfold tail obj at hi
  rw [List.getElem?_drop, List.getElem?_take, if_pos (by unfold sz; omega), List.getElem?_drop] at hi
  have hlt : p + (1 + i) < ws.length := (List.getElem?_eq_some_iff.1 hi).1
  have hwat : wat ws (p + (1 + i)) = x := by unfold wat; rw [List.getD_eq_getElem?_getD, hi]; rfl
  have h := List.all_eq_true.1 hw (p + (1 + i)) (List.mem_range.2 hlt)
  rw [hwat] at h
  -- it is no place itself
  have hno : (places ws).contains (p + (1 + i)) = false := by
    rw [Bool.eq_false_iff]
    intro hc
    have hc := List.contains_iff_mem.1 hc
    unfold okW at hok
    obtain ⟨h1, h2, h3⟩ := objs_spec ws (ws.length + 1) 0 (by omega) (by simpa using hok)
    have key : ∀ f q, ∀ a ∈ objs ws f q, ∀ b ∈ objs ws f q, a < b → a + sz ws a ≤ b := by
      intro f
      induction f with
      | zero => intro q a ha; cases ha
      | succ f ih =>
        intro q a ha b hb' hab
        unfold objs at ha hb'
        split at ha
        · rename_i hq
          rw [if_pos hq] at hb'
          rcases List.mem_cons.1 ha with rfl | ha
          · rcases List.mem_cons.1 hb' with rfl | hb'
            · omega
            · have ge : ∀ f q, ∀ b ∈ objs ws f q, q ≤ b := by
                intro f
                induction f with
                | zero => intro q b hb; cases hb
                | succ f ih2 =>
                  intro q b hb
                  unfold objs at hb
                  split at hb
                  · rcases List.mem_cons.1 hb with rfl | hb
                    · exact Nat.le_refl _
                    · have := ih2 _ b hb; have := sz_pos ws q; omega
                  · cases hb
              exact ge _ _ b hb'
          · rcases List.mem_cons.1 hb' with rfl | hb'
            · have ge : ∀ f q, ∀ b ∈ objs ws f q, q ≤ b := by
                intro f
                induction f with
                | zero => intro q b hb; cases hb
                | succ f ih2 =>
                  intro q b hb
                  unfold objs at hb
                  split at hb
                  · rcases List.mem_cons.1 hb with rfl | hb
                    · exact Nat.le_refl _
                    · have := ih2 _ b hb; have := sz_pos ws q; omega
                  · cases hb
              have := ge _ _ a ha
              have := sz_pos ws b
              omega
            · exact ih _ a ha b hb' hab
        · cases ha
    have := key _ _ p hp _ hc (by omega)
    unfold sz at this
    omega
  rw [hno, Bool.false_or] at h
  exact h
end Hau

end Go.Proofs.Ytpkccpegdpodoaa
