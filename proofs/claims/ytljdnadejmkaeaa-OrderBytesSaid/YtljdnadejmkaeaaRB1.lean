/- RB: Base, Rowz, Types, OrdL, BytL, Clone, Raws, Slc, Del, Steps, T1, T2, CopyA, Ord1, Ord2, Ord3, Ord4, Boxy, FuncsA, Live1, Live4, Live5, Live6. -/
import Derived.WalkKit
import Derived.WalkLawsBesides
import Derived.WalkSpells
import Derived.Lib.Hide
import Derived.Laws.OwnMore
import Derived.Maps.AppendAt
import Derived.Deep.AppendLies
import Derived.Deep.Draws
import Derived.Deep.Slices
import Derived.Deep.RegionLaw
import Derived.Test.YtljdnadejmkaeaaRows
import Derived.BigQuiet
import Derived.Deep.QuietTactic
import Derived.Deep.DeepMust
import Derived.Deep.LoopGhost
import Derived.Laws.BitsLemmas
import Derived.Laws.Bits64
import Derived.Laws.BitsAllLaws
import Derived.Lib.OthersKept
import Derived.IntWalk
import Derived.Shelf.GgClosure.Gives
/-
  The words by which this family's contracts speak of memory: Go's data as Lean's ('Enc'), a slice that reads as a list ('At'), rows of the call's own. No program is named here.
-/
namespace Go.Proofs.Ytljdnadejmkaeaa
open Go.RowKit

/-- a number that an int holds -/
def I64 (n : Int) : Prop := -9223372036854775808 ≤ n ∧ n ≤ 9223372036854775807

theorem block_of_add (a : Addr) (n : Nat) : (a.add n).block = a.block := by unfold Addr.add; split <;> rfl
theorem add_of_add (a : Addr) (i j : Nat) : (a.add i).add j = a.add (i + j) := by
  unfold Addr.add
  by_cases hi : i = 0 <;> by_cases hj : j = 0 <;> simp [hi, hj, Nat.add_assoc]
theorem add_mk (b o n : Nat) : (⟨b, o, none⟩ : Addr).add n = ⟨b, o + n, none⟩ := by
  unfold Addr.add; split <;> simp_all

/-- the cells cs stand from offset o of block b on -/
def CellsAt (w : World) (b o : Nat) (cs : List Value) : Prop := ∀ j u, cs[j]? = some u → w.cell? ⟨b, o + j, none⟩ = some u

theorem CellsAt.keep {w w' : World} {b o : Nat} {cs : List Value} (h : CellsAt w b o cs) (hk : ∀ p : Addr, p.block = b → w'.cell? p = w.cell? p) : CellsAt w' b o cs :=
  fun j u hu => (hk _ rfl).trans (h j u hu)

/-- a Go type's data as Lean's: how many cells it has, and when cells read as it (all that they lead to lies below block B) -/
class Enc (α : Type) where
  sz : Nat
  rd : World → Nat → List Value → α → Prop
  len : ∀ {w : World} {B : Nat} {cs : List Value} {x : α}, rd w B cs x → cs.length = sz
  keep : ∀ {w w' : World} {B : Nat} {cs : List Value} {x : α}, rd w B cs x → (∀ p : Addr, p.block < B → w'.cell? p = w.cell? p) → rd w' B cs x
  more : ∀ {w : World} {B B' : Nat} {cs : List Value} {x : α}, rd w B cs x → B ≤ B' → rd w B' cs x

/-- a type whose cells are its own: no pointers -/
class Flat (α : Type) where
  cells : α → List Value
  sz : Nat
  len : ∀ x : α, (cells x).length = sz
  ok : α → Prop

instance (priority := low) encOfFlat {α : Type} [Flat α] : Enc α where
  sz := Flat.sz α
  rd _ _ cs x := cs = Flat.cells x ∧ Flat.ok x
  len h := by rw [h.1]; exact Flat.len _
  keep h _ := h
  more h _ := h

instance : Flat Int where
  cells n := [.int .i64 n]
  sz := 1
  len _ := rfl
  ok n := I64 n

/-- the slice address A reads as the list xs -/
def At {α : Type} [Enc α] (w : World) (B : Nat) (A : Option Addr) (xs : List α) : Prop :=
  ∀ i x, xs[i]? = some x → ∃ b o cs, A = some ⟨b, o, none⟩ ∧ b < B ∧ CellsAt w b (o + i * Enc.sz α) cs ∧ Enc.rd w B cs x

section
variable {α : Type} [Enc α] {w w' : World} {B B' : Nat} {A : Option Addr} {xs : List α}
theorem At.nil_ : At w B A ([] : List α) := fun i x h => by simp at h
theorem At.keep (h : At w B A xs) (hk : ∀ p : Addr, p.block < B → w'.cell? p = w.cell? p) : At w' B A xs := fun i x hx => by
  obtain ⟨b, o, cs, hA, hb, hc, hr⟩ := h i x hx
  exact ⟨b, o, cs, hA, hb, hc.keep fun p hp => hk p (by omega), Enc.keep hr hk⟩
theorem At.more (h : At w B A xs) (hB : B ≤ B') : At w B' A xs := fun i x hx => by
  obtain ⟨b, o, cs, hA, hb, hc, hr⟩ := h i x hx
  exact ⟨b, o, cs, hA, by omega, hc, Enc.more hr hB⟩
theorem At.below (h : At w B A xs) (hb : Below B w w') : At w' B A xs := h.keep fun _ hp => hb.cell hp
theorem At.alloc (h : At w B A xs) (hB : B ≤ w.heap.size) (o : Obj) : At (w.alloc o) B A xs := h.keep fun p hp => World.cell?_alloc_lt w o p (by omega)
theorem At.setCell (h : At w B A xs) {p : Addr} (hB : B ≤ p.block) (u : Value) : At (w.setCell p u) B A xs := h.keep fun q hq => World.cell?_setCell_other w p q u (fun e => by subst e; omega)
theorem At.drew (h : At w B A xs) : At w.drew B A xs := h.keep fun _ _ => rfl
theorem At.drewN (h : At w B A xs) (n : Nat) : At (w.drewN n) B A xs := h.keep fun _ _ => rfl
end

instance {α : Type} [Enc α] : Enc (List α) where
  sz := 1
  rd w B cs xs := ∃ A cap, cs = [.slice A xs.length cap] ∧ xs.length ≤ cap ∧ cap ≤ maxLen ∧ (A = none → cap = 0) ∧ At w B A xs
  len h := by obtain ⟨A, cap, rfl, _⟩ := h; rfl
  keep h hk := by obtain ⟨A, cap, h1, h2, h3, h4, h5⟩ := h; exact ⟨A, cap, h1, h2, h3, h4, h5.keep hk⟩
  more h hB := by obtain ⟨A, cap, h1, h2, h3, h4, h5⟩ := h; exact ⟨A, cap, h1, h2, h3, h4, h5.more hB⟩

theorem below_drewN {B : Nat} {a w : World} (h : Below B a w) (n : Nat) : Below B a (w.drewN n) := ⟨h.os, h.tape, h.output, h.size, h.block⟩

theorem undrew {B : Nat} {a w : World} (h : Below B a.drew w) : Below B a w := ⟨h.os, h.tape, h.output, h.size, h.block⟩
theorem undrewN {B : Nat} {a w : World} {n : Nat} (h : Below B (a.drewN n) w) : Below B a w := ⟨h.os, h.tape, h.output, h.size, h.block⟩

theorem Below.cells {B : Nat} {w w' : World} (hb : Below B w w') : ∀ p : Addr, p.block < B → w'.cell? p = w.cell? p := fun _ hp => hb.cell hp

section
variable {α : Type} [Enc α] {w w' : World} {B : Nat} {cs : List Value} {x : α}
theorem Enc.below (h : Enc.rd w B cs x) (hb : Below B w w') : Enc.rd w' B cs x := Enc.keep h (Below.cells hb)
end

end Go.Proofs.Ytljdnadejmkaeaa

/-
  Rows of the call's own, as lists of plain data; append, a store into a row, what stays over later steps.
-/
namespace Go.Proofs.Ytljdnadejmkaeaa
open Go.RowKit

instance : Flat (Int × Int) where
  cells p := [.int .i64 p.1, .int .i64 p.2]
  sz := 2
  len _ := rfl
  ok p := I64 p.1 ∧ I64 p.2
instance : Flat (Int × Int × Int) where
  cells p := [.int .i64 p.1, .int .i64 p.2.1, .int .i64 p.2.2]
  sz := 3
  len _ := rfl
  ok p := I64 p.1 ∧ I64 p.2.1 ∧ I64 p.2.2
/-- a word of 64 bits -/
structure U64 where
  val : Int
instance : Flat U64 where
  cells p := [.int .u64 p.val]
  sz := 1
  len _ := rfl
  ok p := 0 ≤ p.val ∧ p.val ≤ 18446744073709551615

/-- the cells of a list of plain data, one behind the other -/
def flat {α : Type} [Flat α] (l : List α) : List Value := l.flatMap Flat.cells

section
variable {α : Type} [Flat α]
theorem flat_nil : flat ([] : List α) = [] := rfl
theorem flat_cons (x : α) (l : List α) : flat (x :: l) = Flat.cells x ++ flat l := by simp [flat]
theorem flat_append (l r : List α) : flat (l ++ r) = flat l ++ flat r := by simp [flat]
theorem flat_one (x : α) : flat [x] = Flat.cells x := by simp [flat]
theorem flat_length (l : List α) : (flat l).length = l.length * Flat.sz α := by
  induction l with
  | nil => simp [flat]
  | cons x l ih => rw [flat_cons, List.length_append, ih, Flat.len, List.length_cons, Nat.succ_mul]; omega
theorem flat_get (l : List α) (i j : Nat) (x : α) (hx : l[i]? = some x) (hj : j < Flat.sz α) : (flat l)[i * Flat.sz α + j]? = (Flat.cells x)[j]? := by
  induction l generalizing i with
  | nil => simp at hx
  | cons y l ih =>
    rw [flat_cons]
    cases i with
    | zero =>
      simp only [List.getElem?_cons_zero, Option.some.injEq] at hx
      subst hx
      rw [Nat.zero_mul, Nat.zero_add, List.getElem?_append_left (by rw [Flat.len]; exact hj)]
    | succ i =>
      simp only [List.getElem?_cons_succ] at hx
      rw [List.getElem?_append_right (by rw [Flat.len, Nat.succ_mul]; omega), Flat.len, Nat.succ_mul, show i * Flat.sz α + Flat.sz α + j - Flat.sz α = i * Flat.sz α + j by omega]
      exact ih i hx
theorem flat_set (l : List α) (i : Nat) (x : α) (j : Nat) (u : Value) (y : α) (hx : l[i]? = some x) (hj : j < Flat.sz α) (hy : Flat.cells y = (Flat.cells x).set j u) :
    (flat l).set (i * Flat.sz α + j) u = flat (l.set i y) := by
  induction l generalizing i with
  | nil => simp at hx
  | cons z l ih =>
    cases i with
    | zero =>
      simp only [List.getElem?_cons_zero, Option.some.injEq] at hx
      subst hx
      rw [List.set_cons_zero, flat_cons, flat_cons, hy, Nat.zero_mul, Nat.zero_add, List.set_append_left _ _ (by rw [Flat.len]; exact hj)]
    | succ i =>
      simp only [List.getElem?_cons_succ] at hx
      rw [List.set_cons_succ, flat_cons, flat_cons, List.set_append_right _ _ (by rw [Flat.len, Nat.succ_mul]; omega), Flat.len, Nat.succ_mul,
        show i * Flat.sz α + Flat.sz α + j - Flat.sz α = i * Flat.sz α + j by omega, ih i hx]
/-- the cells of a list that a slice reads as -/
theorem At.news {w : World} {B : Nat} {A : Option Addr} {l : List α} (h : At w B A l) (hne : l ≠ []) : ∃ b o, A = some ⟨b, o, none⟩ ∧ b < B ∧ CellsAt w b o (flat l) := by
  obtain ⟨x0, hx0⟩ : ∃ x, l[0]? = some x := by
    cases l with
    | nil => exact absurd rfl hne
    | cons y l => exact ⟨y, rfl⟩
  obtain ⟨b, o, cs, rfl, hb, -, -⟩ := h 0 x0 hx0
  refine ⟨b, o, rfl, hb, fun j u hu => ?_⟩
  have hlt : j < (flat l).length := (List.getElem?_eq_some_iff.1 hu).1
  rw [flat_length] at hlt
  have hs : 0 < Flat.sz α := by
    rcases Nat.eq_zero_or_pos (Flat.sz α) with h0 | h0
    · rw [h0] at hlt; simp at hlt
    · exact h0
  have hi : j / Flat.sz α < l.length := by rw [Nat.div_lt_iff_lt_mul hs]; exact hlt
  obtain ⟨x, hx⟩ : ∃ x, l[j / Flat.sz α]? = some x := ⟨_, List.getElem?_eq_getElem hi⟩
  obtain ⟨b', o', cs', hA, -, hc, hr⟩ := h _ x hx
  simp only [Option.some.injEq, Addr.mk.injEq] at hA
  obtain ⟨rfl, rfl, -⟩ := hA
  have hcs : cs' = Flat.cells x := hr.1
  subst hcs
  have hm := Nat.mod_lt j hs
  have hd := flat_get l (j / Flat.sz α) (j % Flat.sz α) x hx hm
  have he : j / Flat.sz α * Flat.sz α + j % Flat.sz α = j := Nat.div_add_mod' j _
  rw [he] at hd
  have := hc (j % Flat.sz α) u (by rw [← hd]; exact hu)
  have e2 : o + j / Flat.sz α * Enc.sz α + j % Flat.sz α = o + j := by
    show o + j / Flat.sz α * Flat.sz α + j % Flat.sz α = o + j
    omega
  rw [e2] at this
  exact this
end

/-- the row's block of a slice's address -/
def rowOf (A : Option Addr) : Option Nat := A.map (·.block)
theorem ownBlock_slice (A : Option Addr) (n c : Nat) : Value.ownBlock (.slice A n c) = rowOf A := by cases A <;> rfl

/-- THE SLICE (A, length, c) OWNS THE LIST l, in a row among the blocks from base on -/
def Own {α : Type} [Flat α] (w : World) (base : Nat) (e : TypeId) (A : Option Addr) (c : Nat) (l : List α) : Prop :=
  w.ownsRow base e (Flat.sz α) (.slice A l.length c) l.length (flat l)

section
variable {α : Type} [Flat α] {w w' : World} {base : Nat} {e : TypeId} {A : Option Addr} {c : Nat} {l : List α}
theorem Own.nil_ : Own w base e none 0 ([] : List α) := World.ownsRow_nil w base e _
theorem Own.lt (h : Own w base e A c l) : ∀ g, rowOf A = some g → base ≤ g ∧ g < w.heap.size := fun g hg => World.ownsRow.lt h g (by rw [ownBlock_slice]; exact hg)
theorem Own.base_le {base' : Nat} (h : Own w base e A c l) (hb : base' ≤ base) : Own w base' e A c l := by
  refine ⟨h.1, ?_⟩
  rcases h.2 with h2 | ⟨g, cap, cur, hv, hg, r⟩
  · exact .inl h2
  · exact .inr ⟨g, cap, cur, hv, by omega, r⟩
theorem Own.block_ (h : Own w base e A c l) (hb : ∀ g, rowOf A = some g → w'.heap[g]? = w.heap[g]?) : Own w' base e A c l := by
  refine ⟨h.1, ?_⟩
  rcases h.2 with h2 | ⟨g, cap, cur, hv, hg, hh, r⟩
  · exact .inl h2
  · refine .inr ⟨g, cap, cur, hv, hg, ?_, r⟩
    rw [hb g (by injection hv with h1; subst h1; rfl)]; exact hh
theorem Own.fresh (h : Own w base e A c l) (hb : Below w.heap.size w w') : Own w' base e A c l := h.block_ fun g hg => hb.block g (h.lt g hg).2
theorem Own.below {B : Nat} (h : Own w base e A c l) (hb : Below B w w') (hlt : ∀ g, rowOf A = some g → g < B) : Own w' base e A c l := h.block_ fun g hg => hb.block g (hlt g hg)
theorem Own.alloc (h : Own w base e A c l) (o : Obj) : Own (w.alloc o) base e A c l := World.ownsRow.alloc h o
theorem Own.drewN (h : Own w base e A c l) (n : Nat) : Own (w.drewN n) base e A c l := h
theorem Own.drew (h : Own w base e A c l) : Own w.drew base e A c l := h
theorem Own.setCell (h : Own w base e A c l) (p : Addr) (u : Value) (hp : rowOf A ≠ some p.block) : Own (w.setCell p u) base e A c l :=
  h.block_ fun g hg => Below.heap_setCell _ _ _ _ (fun e => hp (by rw [hg, e]))
theorem Own.grown {row : Option Nat} (h : Own w base e A c l) (hg : w.grownBy w' row) (hne : ∀ g, rowOf A = some g → row ≠ some g) : Own w' base e A c l :=
  h.block_ fun g hg' => hg.block g (h.lt g hg').2 (fun e => hne g hg' e.symm)
theorem Own.le_cap (h : Own w base e A c l) : l.length ≤ c ∧ c ≤ maxLen := by
  rcases h.2 with ⟨h1, h2⟩ | ⟨g, cap, cur, hv, hg, hh, h1, h2, _⟩
  · injection h1 with _ h3 h4; rw [h2] at *; subst h4; simp [maxLen]
  · injection hv with _ _ h3; subst h3; exact ⟨h1, h2⟩
theorem Own.at_zero (h : Own w base e A c l) {a : Addr} (hA : A = some a) : ∃ g, a = ⟨g, 0, none⟩ ∧ base ≤ g ∧ g < w.heap.size := by
  rcases h.2 with ⟨h1, _⟩ | ⟨g, cap, cur, hv, hg, hh, _⟩
  · injection h1 with h3; rw [hA] at h3; cases h3
  · injection hv with h3; rw [hA] at h3; injection h3 with h3; subst h3
    exact ⟨g, rfl, hg, (Array.getElem?_eq_some_iff.1 hh).1⟩
theorem Own.some_ (h : Own w base e A c l) (hl : 0 < l.length) : ∃ g, A = some ⟨g, 0, none⟩ ∧ base ≤ g ∧ g < w.heap.size := by
  rcases h.2 with ⟨_, h2⟩ | ⟨g, cap, cur, hv, hg, hh, _⟩
  · omega
  · injection hv with h3; exact ⟨g, h3, hg, (Array.getElem?_eq_some_iff.1 hh).1⟩
theorem Own.cells_ (h : Own w base e A c l) {g o : Nat} {s : Option Nat} (hA : A = some ⟨g, o, s⟩) : CellsAt w g 0 (flat l) := by
  obtain ⟨g', he, -, -⟩ := h.at_zero hA
  injection he with h1 h2 h3
  subst h1 h2 h3 hA
  intro j u hu
  have := World.ownsRow.cells h (g := g) rfl j u hu
  rw [add_mk] at this
  exact this
/-- an owned row reads as its list -/
theorem Own.at_ (h : Own w base e A c l) (hok : ∀ x ∈ l, Flat.ok x) : At w w.heap.size A l := by
  intro i x hx
  have hi : i < l.length := (List.getElem?_eq_some_iff.1 hx).1
  obtain ⟨g, rfl, -, hlt⟩ := h.some_ (by omega)
  refine ⟨g, 0, Flat.cells x, rfl, hlt, fun j u hu => ?_, rfl, hok x (List.mem_of_getElem? hx)⟩
  have hj : j < Flat.sz α := by rw [← Flat.len x]; exact (List.getElem?_eq_some_iff.1 hu).1
  have := h.cells_ rfl (i * Flat.sz α + j) u (by rw [flat_get l i j x hx hj]; exact hu)
  rw [show 0 + i * Enc.sz α + j = 0 + (i * Flat.sz α + j) from by show 0 + i * Flat.sz α + j = _; omega]
  exact this
theorem Own.frozen (h : Own w base e A c l) {g : Nat} (hA : rowOf A = some g) (j : Nat) : w.frozen? ⟨g, j, none⟩ = false := by
  rcases h.2 with ⟨h1, _⟩ | ⟨g', cap, cur, hv, hg, hh, _⟩
  · injection h1 with h3; rw [h3] at hA; cases hA
  · injection hv with h3; rw [h3] at hA; injection hA with hA; subst hA
    simp [World.frozen?, hh]
/-- a store into an owned row -/
theorem Own.set_ (h : Own w base e A c l) {g i j : Nat} {x y : α} {u : Value} (hA : A = some ⟨g, 0, none⟩) (hx : l[i]? = some x) (hj : j < Flat.sz α) (hy : Flat.cells y = (Flat.cells x).set j u) :
    Own (w.setCell ⟨g, i * Flat.sz α + j, none⟩ u) base e A c (l.set i y) := by
  subst hA
  have hl : (l.set i y).length = l.length := List.length_set
  unfold Own
  rw [hl, ← flat_set l i x j u y hx hj hy]
  refine ⟨by rw [List.length_set]; exact h.1, ?_⟩
  rcases h.2 with ⟨h1, _⟩ | ⟨g', cap, cur, hv, hg, hh, h1, h2, h3, h4⟩
  · injection h1 with h3; cases h3
  · injection hv with h5 _ h6; injection h5 with h5; injection h5 with h5; subst h5 h6
    have hi : i < l.length := (List.getElem?_eq_some_iff.1 hx).1
    refine .inr ⟨g, c, cur.setIfInBounds (i * Flat.sz α + j) u, rfl, hg, ?_, h1, h2, by rw [Array.size_setIfInBounds]; exact h3, ?_⟩
    · simp [World.setCell, Array.getElem?_modify, hh]
    · rw [Array.toList_setIfInBounds, List.take_set, h4]
end

/-- a struct of two numbers stored into an owned row -/
theorem Own.set_two {w : World} {base : Nat} {e : TypeId} {c : Nat} {l : List (Int × Int)} [Flat (Int × Int)] {g i : Nat} {x : Int × Int} {a b : Int} (hsz : Flat.sz (Int × Int) = 2) (hcell : ∀ p : Int × Int, Flat.cells p = [.int .i64 p.1, .int .i64 p.2])
    (h : Own w base e (some ⟨g, 0, none⟩) c l) (hx : l[i]? = some x) : Own ((w.setCell ⟨g, i * 2, none⟩ (.int .i64 a)).setCell ⟨g, i * 2 + 1, none⟩ (.int .i64 b)) base e (some ⟨g, 0, none⟩) c (l.set i (a, b)) := by
  have hi : i < l.length := (List.getElem?_eq_some_iff.1 hx).1
  have h1 := h.set_ (j := 0) (y := (a, x.2)) (u := .int .i64 a) rfl hx (by omega) (by rw [hcell, hcell]; rfl)
  have h2 := h1.set_ (i := i) (x := (a, x.2)) (j := 1) (y := (a, b)) (u := .int .i64 b) rfl (by rw [List.getElem?_set_self hi]) (by omega) (by rw [hcell, hcell]; rfl)
  rw [List.set_set, hsz, Nat.add_zero] at h2
  exact h2

/-- a literal's new block reads as its list -/
theorem At.built {α : Type} [Flat α] (w : World) (cs : Array Value) (e : TypeId) (l : List α) (hcs : cs.toList = flat l) (hok : ∀ x ∈ l, Flat.ok x) :
    At (w.alloc (.cells cs e)) (w.heap.size + 1) (some ⟨w.heap.size, 0, none⟩) l := by
  intro i x hx
  refine ⟨w.heap.size, 0, Flat.cells x, rfl, Nat.lt_succ_self _, fun j u hu => ?_, rfl, hok x (List.mem_of_getElem? hx)⟩
  have hj : j < Flat.sz α := by rw [← Flat.len x]; exact (List.getElem?_eq_some_iff.1 hu).1
  rw [World.cell?_alloc_at _ _ _ _ rfl, ← Array.getElem?_toList, hcs, show 0 + i * Enc.sz α + j = i * Flat.sz α + j from by show 0 + i * Flat.sz α + j = _; omega, flat_get l i j x hx hj]
  exact hu

/-- append onto an owned row of what a slice reads as (nil, empty or not) -/
theorem run_app {α : Type} [Flat α] {P : Program} (w : World) (base : Nat) (t ty e : TypeId) (i : TypeInfo) (z : Value) (bytes : Nat) (ht : P.underlying t = some (.slice e)) (hi : P.info? e = some i) (hz : i.zero = some z)
    (hsize : i.size = Flat.sz α) (hby : i.bytes = bytes) (hzs : z.cells.size = Flat.sz α) (hsz : 0 < Flat.sz α) (hone : ∀ x : α, ∀ u ∈ Flat.cells x, u.oneCell' = true)
    {A : Option Addr} {c : Nat} {l : List α} (hown : Own w base e A c l) {B : Nat} {X : Option Addr} {m d : Nat} {r : List α} (hr : At w B X r) (hm : r.length = m)
    (hbytes : (l.length + m) * bytes ≤ 140737488355328) (h63 : l.length + m ≤ maxLen) (hbase : base ≤ w.heap.size) :
    ∃ A' c' w', (Builtin.append_ #[t, t] ty #[.slice A l.length c, .slice X m d]).run P w = .ok (.slice A' (l.length + m) c') w' ∧ Own w' base e A' c' (l ++ r) ∧ w.grownBy w' (rowOf A) ∧
      (rowOf A' = rowOf A ∨ rowOf A' = some w.heap.size) := by
  subst hm
  rcases List.eq_nil_or_concat r with rfl | ⟨r0, x0, hr0⟩
  · -- nothing is appended
    have hcap := hown.le_cap
    refine ⟨A, c, w, ?_, by simpa using hown, World.grownBy.refl w _, .inl rfl⟩
    cases A with
    | none =>
      have hl : l.length = 0 := by
        rcases hown.2 with ⟨_, h2⟩ | ⟨g, cap, cur, hv, _⟩
        · exact h2
        · injection hv with hv; cases hv
      cases X <;> simp [Builtin.append_, run_underlying ht, sizeOf, typeInfo, hi, Builtin.lenOf, Builtin.firstCells, loadCells, loadCellsFrom, hl]
    | some a =>
      cases X <;> simp [Builtin.append_, run_underlying ht, sizeOf, typeInfo, hi, Builtin.lenOf, Builtin.firstCells, loadCells, loadCellsFrom, hcap.1, storeCells]
  · have hne : r ≠ [] := by rw [hr0]; simp
    obtain ⟨b, o, rfl, hb, hc⟩ := hr.news hne
    obtain ⟨v', w', hrun, h2, h3, h4, h5⟩ := run_append_own_at (P := P) w base t ty e i z (Flat.sz α) bytes ht hi hz hsize hby hzs hsz (.slice A l.length c) l.length (flat l) hown ⟨b, o, none⟩ r.length d (flat r)
      (flat_length r) (fun j u hu => by rw [add_mk]; exact hc j u hu) (fun u hu => by
        unfold flat at hu
        obtain ⟨x, -, hx⟩ := List.mem_flatMap.1 hu
        exact hone x u hx) h63 hbytes hbase
    have hlen : (l ++ r).length = l.length + r.length := List.length_append
    rcases h2.2 with ⟨rfl, h6⟩ | ⟨g, cap, cur, rfl, h6⟩
    · have : 0 < r.length := List.length_pos_iff.2 hne
      omega
    · refine ⟨some ⟨g, 0, none⟩, cap, w', hrun, ?_, by rw [ownBlock_slice] at h3; exact h3, by simpa [ownBlock_slice] using h5⟩
      unfold Own
      rw [hlen, flat_append]
      exact h2

theorem wpList_app {α : Type} [Flat α] {P : Program} {w : World} {ops : Array Oper} {rest : List Oper} {o : Oper} {a : Act} {Q : Exit → Act → World → Prop} (hgd : o.guard = none) (s x : Operand) (t : TypeId)
    (ho : o.op = .call { callee := .builtin .append, args := #[s, x], argTypes := #[t, t] })
    (base : Nat) (e : TypeId) (i : TypeInfo) (z : Value) (bytes : Nat) (ht : P.underlying t = some (.slice e)) (hi : P.info? e = some i) (hz : i.zero = some z)
    (hsize : i.size = Flat.sz α) (hby : i.bytes = bytes) (hzs : z.cells.size = Flat.sz α) (hsz : 0 < Flat.sz α) (hone : ∀ x : α, ∀ u ∈ Flat.cells x, u.oneCell' = true)
    {A : Option Addr} {n c : Nat} {l : List α} (hs : a.eval s = .slice A n c) (hn : l.length = n) (hown : Own w base e A c l) {B : Nat} {X : Option Addr} {m d : Nat} {r : List α} (hx : a.eval x = .slice X m d) (hr : At w B X r) (hm : r.length = m)
    (hbytes : (n + m) * bytes ≤ 140737488355328) (h63 : n + m ≤ maxLen) (hbase : base ≤ w.heap.size)
    (h : ∀ A' c' w', Own w' base e A' c' (l ++ r) → w.grownBy w' (rowOf A) → (rowOf A' = rowOf A ∨ rowOf A' = some w.heap.size) → wpList P ops Q rest (a.put o.dst (.slice A' (n + m) c')) w') :
    wpList P ops Q (o :: rest) a w := by
  subst hn
  refine wpList_plain hgd fun K hK => ?_
  obtain ⟨A', c', w', hrun, h2, h3, h4⟩ := run_app (α := α) (P := P) w base t o.type e i z bytes ht hi hz hsize hby hzs hsz hone hown hr hm hbytes h63 hbase
  unfold Oper.wp execOp
  simp only [ho, resolve, invoke, builtin, Sem.run_bind, Sem.run_pure, Result.andThen_ok, List.map_toArray, List.map_cons, List.map_nil, hs, hx]
  rw [hrun]
  exact hK _ _ (h A' c' w' h2 h3 h4)

/-! ### a block that is known whole -/
/-- block g is just the cells cs of element type t, none of them frozen -/
def Blk (w : World) (g : Nat) (t : TypeId) (cs : Array Value) : Prop := w.heap[g]? = some (.cells cs t (0, 0))

section
variable {w w' : World} {g : Nat} {t : TypeId} {cs : Array Value}
theorem Blk.lt (h : Blk w g t cs) : g < w.heap.size := (Array.getElem?_eq_some_iff.1 h).1
theorem Blk.cell (h : Blk w g t cs) (i : Nat) {v : Value} (hv : cs[i]? = some v) : w.cell? ⟨g, i, none⟩ = some v := (cell_of_row w g i cs t (0, 0) h).trans hv
theorem Blk.frozen (h : Blk w g t cs) (i : Nat) : w.frozen? ⟨g, i, none⟩ = false := by
  unfold Blk at h; simp [World.frozen?, h]
theorem Blk.new (w : World) (t : TypeId) (cs : Array Value) : Blk (w.alloc (.cells cs t)) w.heap.size t cs := heap_alloc_new w _
theorem Blk.at_ (w : World) (t : TypeId) (cs : Array Value) {g : Nat} (hg : g = w.heap.size) : Blk (w.alloc (.cells cs t)) g t cs := by subst hg; exact heap_alloc_new w _
theorem Blk.drew (h : Blk w g t cs) : Blk w.drew g t cs := h
theorem Blk.drewN (h : Blk w g t cs) (n : Nat) : Blk (w.drewN n) g t cs := h
theorem Blk.alloc (h : Blk w g t cs) (o : Obj) : Blk (w.alloc o) g t cs := (Below.heap_alloc w o g h.lt).trans h
theorem Blk.set_ (h : Blk w g t cs) (i : Nat) (u : Value) : Blk (w.setCell ⟨g, i, none⟩ u) g t (cs.setIfInBounds i u) := by
  unfold Blk at h ⊢
  simp [World.setCell, Array.getElem?_modify, h]
theorem Blk.far (h : Blk w g t cs) {p : Addr} (hp : g ≠ p.block) (u : Value) : Blk (w.setCell p u) g t cs := (Below.heap_setCell w p u g hp).trans h
theorem Blk.fresh (h : Blk w g t cs) (hb : Below w.heap.size w w') : Blk w' g t cs := (hb.block g h.lt).trans h
theorem Blk.grown {row : Option Nat} (h : Blk w g t cs) (hb : w.grownBy w' row) (hg : row ≠ some g) : Blk w' g t cs := (hb.block g h.lt (fun e => hg e.symm)).trans h
theorem Blk.cells8 {a0 a1 a2 a3 a4 a5 a6 a7 : Value} (h : Blk w g t #[a0, a1, a2, a3, a4, a5, a6, a7]) :
    w.cell? ⟨g, 0, none⟩ = some a0 ∧ w.cell? ⟨g, 1, none⟩ = some a1 ∧ w.cell? ⟨g, 2, none⟩ = some a2 ∧ w.cell? ⟨g, 3, none⟩ = some a3 ∧ w.cell? ⟨g, 4, none⟩ = some a4 ∧ w.cell? ⟨g, 5, none⟩ = some a5 ∧ w.cell? ⟨g, 6, none⟩ = some a6 ∧ w.cell? ⟨g, 7, none⟩ = some a7 :=
  ⟨h.cell 0 rfl, h.cell 1 rfl, h.cell 2 rfl, h.cell 3 rfl, h.cell 4 rfl, h.cell 5 rfl, h.cell 6 rfl, h.cell 7 rfl⟩
theorem Blk.cells4 {a0 a1 a2 a3 : Value} (h : Blk w g t #[a0, a1, a2, a3]) :
    w.cell? ⟨g, 0, none⟩ = some a0 ∧ w.cell? ⟨g, 1, none⟩ = some a1 ∧ w.cell? ⟨g, 2, none⟩ = some a2 ∧ w.cell? ⟨g, 3, none⟩ = some a3 :=
  ⟨h.cell 0 rfl, h.cell 1 rfl, h.cell 2 rfl, h.cell 3 rfl⟩
theorem At.ok_ {α : Type} [Flat α] {B : Nat} {A : Option Addr} {l : List α} (h : At w B A l) : ∀ x ∈ l, Flat.ok x := by
  intro x hx
  obtain ⟨i, hi⟩ := List.mem_iff_getElem?.1 hx
  obtain ⟨b, o, cs, -, -, -, hr⟩ := h i x hi
  exact hr.2
theorem own_ne_blk {α : Type} [Flat α] {base : Nat} {e : TypeId} {A : Option Addr} {c : Nat} {l : List α} (h : Own w base e A c l) (hg : g < base) : rowOf A ≠ some g := fun he => by have := h.lt g he; omega
end

section
variable {w w' : World} {g : Nat} {t : TypeId} {cs cs' : Array Value}
theorem Blk.setRow (h : Blk w g t cs) : Blk (w.setRow g cs') g t cs' := setRow_heap w g cs cs' t (0, 0) h
theorem Blk.setRow_far (h : Blk w g t cs) {g' : Nat} (hg : g ≠ g') : Blk (w.setRow g' cs') g t cs := (setRow_other w g' g cs' hg).trans h
theorem Own.setRow {α : Type} [Flat α] {base : Nat} {e : TypeId} {A : Option Addr} {c : Nat} {l : List α} (h : Own w base e A c l) {g' : Nat} (hg : rowOf A ≠ some g') : Own (w.setRow g' cs') base e A c l :=
  h.block_ fun k hk => setRow_other w g' k cs' (fun e => hg (by rw [hk, e]))
end

/-- a whole struct loaded from, stored into a block that is known whole -/
theorem wpList_ld {P : Program} {ops : Array Oper} {rest : List Oper} {o : Oper} {a : Act} {w : World} {Q : Exit → Act → World → Prop} (hgd : o.guard = none) (ty : TypeId) (x : Operand) (ho : o.op = .load ty x)
    (g : Nat) (hx : a.eval x = .pointer (some ⟨g, 0, none⟩)) {t : TypeId} {cs : Array Value} {d : TypeDesc} (hg : Blk w g t cs)
    (hu : P.underlying ty = some d) (hd : (match d with | .struct _ | .array _ _ => true | _ => false) = true) (hi : (P.info? ty).map (·.size) = some cs.size)
    (h : wpList P ops Q rest (a.put o.dst (.agg cs)) w) : wpList P ops Q (o :: rest) a w :=
  wpList_load_row hgd ty x ho g hx t cs (0, 0) d hg hu hd hi h
theorem wpList_st {P : Program} {ops : Array Oper} {rest : List Oper} {o : Oper} {a : Act} {w : World} {Q : Exit → Act → World → Prop} (hgd : o.guard = none) (ty : TypeId) (x y : Operand) (ho : o.op = .store ty x y)
    (g : Nat) {cells : Array Value} (hx : a.eval x = .pointer (some ⟨g, 0, none⟩)) (hy : a.eval y = .agg cells)
    {t : TypeId} {old : Array Value} (hg : Blk w g t old) (hi : (P.info? ty).map (·.size) = some cells.size)
    (hold : old.size = cells.size) (h1 : cells.toList.all (·.oneCell') = true)
    (h : wpList P ops Q rest (a.put o.dst undef) (w.setRow g cells)) : wpList P ops Q (o :: rest) a w :=
  wpList_store_row hgd ty x y ho g cells hx hy t old hg hi hold (by rw [← Array.all_toList]; exact h1) h

theorem bel_setRow {B g : Nat} {w0 w : World} (hb : Below B w0 w) (hBg : B ≤ g) (cs : Array Value) : Below B w0 (w.setRow g cs) :=
  hb.trans ⟨rfl, rfl, rfl, by simp, fun k hk => setRow_other w g k cs (by omega)⟩

/-- a struct and a plain value handed back -/
theorem results_cell_tmp {P : Program} {fn : Func} {p q : Tmp} {ty : TypeId} (h : fn.results = #[.cell p ty, .tmp q]) (tmps : Array Value) (w : World) (g : Nat) (t : TypeId) (cs : Array Value) (d : TypeDesc)
    (hp : tmps.getD p undef = .pointer (some ⟨g, 0, none⟩)) (hg : Blk w g t cs)
    (hu : P.underlying ty = some d) (hd : (match d with | .struct _ | .array _ _ => true | _ => false) = true) (hi : (P.info? ty).map (·.size) = some cs.size) :
    (results fn tmps).run P w = .ok (.tuple #[.agg cs, tmps.getD q undef]) w := by
  have hp' : tmps[p]?.getD undef = .pointer (some ⟨g, 0, none⟩) := by simpa using hp
  simp [results, h, hp', asAddr, run_loadVar_row w g t ty cs (0, 0) d hg hu hd hi]

/-- the world at hand behind a name, of which only what is said is known -/
theorem wp_world {P : Program} {c : Code} {Q : Exit → Act → World → Prop} {a : Act} {w0 : World} (p : World → Prop) (h0 : p w0) (h : ∀ w, p w → Code.wp P c Q a w) : Code.wp P c Q a w0 := h w0 h0
theorem wpList_world {P : Program} {ops : Array Oper} {Q : Exit → Act → World → Prop} {l : List Oper} {a : Act} {w0 : World} (p : World → Prop) (h0 : p w0) (h : ∀ w, p w → wpList P ops Q l a w) : wpList P ops Q l a w0 := h w0 h0
theorem calls_world {P : Program} {f : FuncId} {args : Array Value} {R : Ending → World → Prop} {w0 : World} (p : World → Prop) (h0 : p w0) (h : ∀ w, p w → Calls P f args w R) : Calls P f args w0 R := h w0 h0

end Go.Proofs.Ytljdnadejmkaeaa

/-
  Go's struct types as Lean's (printed by gentypes.py): their cells, their reading, what an element of a slice of them holds.
-/
namespace Go.Proofs.Ytljdnadejmkaeaa
open Go.RowKit

structure Mk where
  cell : Int
  kind : Int
  num : Int
  vals : List Int

instance : Enc Mk where
  sz := 4
  rd w B cs x := ∃ (c_vals : Value), cs = [.int .i64 x.cell] ++ ([.int .i64 x.kind] ++ ([.int .i64 x.num] ++ ([c_vals]))) ∧ I64 x.cell ∧ I64 x.kind ∧ I64 x.num ∧ Enc.rd w B [c_vals] x.vals
  len := by
    rintro w B cs x ⟨c_vals, rfl, h0, h1, h2, h3⟩
    simp only [List.length_append, List.length_cons, List.length_nil]
  keep := by
    rintro w w2 B cs x ⟨c_vals, rfl, h0, h1, h2, h3⟩ hk
    exact ⟨_, rfl, h0, h1, h2, Enc.keep h3 hk⟩
  more := by
    rintro w B B2 cs x ⟨c_vals, rfl, h0, h1, h2, h3⟩ hB
    exact ⟨_, rfl, h0, h1, h2, Enc.more h3 hB⟩

theorem At.mk_ {w : World} {B : Nat} {A : Option Addr} {l : List Mk} {k : Nat} (h : At w B A l) (hk : k < l.length) :
    ∃ b o x A_vals c_vals, A = some ⟨b, o, none⟩ ∧ b < B ∧ l[k]? = some x ∧ w.cell? ⟨b, o + k * 4, none⟩ = some (.int .i64 x.cell) ∧ w.cell? ⟨b, o + k * 4 + 1, none⟩ = some (.int .i64 x.kind) ∧ w.cell? ⟨b, o + k * 4 + 2, none⟩ = some (.int .i64 x.num) ∧ w.cell? ⟨b, o + k * 4 + 3, none⟩ = some (.slice A_vals x.vals.length c_vals) ∧ At w B A_vals x.vals ∧ (x.vals.length ≤ c_vals ∧ c_vals ≤ maxLen) ∧ I64 x.cell ∧ I64 x.kind ∧ I64 x.num := by
  obtain ⟨x, hx⟩ : ∃ x, l[k]? = some x := ⟨l[k], List.getElem?_eq_getElem hk⟩
  obtain ⟨b, o, cs, rfl, hb, hc, hr⟩ := h k x hx
  obtain ⟨c_vals, rfl, h0, h1, h2, h3⟩ := hr
  obtain ⟨A_vals, d_vals, e3, l1_vals, l2_vals, -, at_vals⟩ := h3
  injection e3 with e3; subst e3
  exact ⟨b, o, x, A_vals, d_vals, rfl, hb, hx, hc 0 _ rfl, hc 1 _ rfl, hc 2 _ rfl, hc 3 _ rfl, at_vals, ⟨l1_vals, l2_vals⟩, h0, h1, h2⟩

structure Ex where
  at_ : Int
  steps : Int
  sets : List (Int × Int)
  makes : List Mk

instance : Enc Ex where
  sz := 4
  rd w B cs x := ∃ (c_sets : Value) (c_makes : Value), cs = [.int .i64 x.at_] ++ ([.int .i64 x.steps] ++ ([c_sets] ++ ([c_makes]))) ∧ I64 x.at_ ∧ I64 x.steps ∧ Enc.rd w B [c_sets] x.sets ∧ Enc.rd w B [c_makes] x.makes
  len := by
    rintro w B cs x ⟨c_sets, c_makes, rfl, h0, h1, h2, h3⟩
    simp only [List.length_append, List.length_cons, List.length_nil]
  keep := by
    rintro w w2 B cs x ⟨c_sets, c_makes, rfl, h0, h1, h2, h3⟩ hk
    exact ⟨_, _, rfl, h0, h1, Enc.keep h2 hk, Enc.keep h3 hk⟩
  more := by
    rintro w B B2 cs x ⟨c_sets, c_makes, rfl, h0, h1, h2, h3⟩ hB
    exact ⟨_, _, rfl, h0, h1, Enc.more h2 hB, Enc.more h3 hB⟩

theorem At.ex_ {w : World} {B : Nat} {A : Option Addr} {l : List Ex} {k : Nat} (h : At w B A l) (hk : k < l.length) :
    ∃ b o x A_sets c_sets A_makes c_makes, A = some ⟨b, o, none⟩ ∧ b < B ∧ l[k]? = some x ∧ w.cell? ⟨b, o + k * 4, none⟩ = some (.int .i64 x.at_) ∧ w.cell? ⟨b, o + k * 4 + 1, none⟩ = some (.int .i64 x.steps) ∧ w.cell? ⟨b, o + k * 4 + 2, none⟩ = some (.slice A_sets x.sets.length c_sets) ∧ w.cell? ⟨b, o + k * 4 + 3, none⟩ = some (.slice A_makes x.makes.length c_makes) ∧ At w B A_sets x.sets ∧ (x.sets.length ≤ c_sets ∧ c_sets ≤ maxLen) ∧ At w B A_makes x.makes ∧ (x.makes.length ≤ c_makes ∧ c_makes ≤ maxLen) ∧ I64 x.at_ ∧ I64 x.steps := by
  obtain ⟨x, hx⟩ : ∃ x, l[k]? = some x := ⟨l[k], List.getElem?_eq_getElem hk⟩
  obtain ⟨b, o, cs, rfl, hb, hc, hr⟩ := h k x hx
  obtain ⟨c_sets, c_makes, rfl, h0, h1, h2, h3⟩ := hr
  obtain ⟨A_sets, d_sets, e2, l1_sets, l2_sets, -, at_sets⟩ := h2
  injection e2 with e2; subst e2
  obtain ⟨A_makes, d_makes, e3, l1_makes, l2_makes, -, at_makes⟩ := h3
  injection e3 with e3; subst e3
  exact ⟨b, o, x, A_sets, d_sets, A_makes, d_makes, rfl, hb, hx, hc 0 _ rfl, hc 1 _ rfl, hc 2 _ rfl, hc 3 _ rfl, at_sets, ⟨l1_sets, l2_sets⟩, at_makes, ⟨l1_makes, l2_makes⟩, h0, h1⟩

structure Fr where
  fn : Int
  at_ : Int
  fto : Int
  gen : Int
  self : (Int × Int)
  regs : List (Int × Int)
  tries : List (Int × Int)

instance : Enc Fr where
  sz := 8
  rd w B cs x := ∃ (c_regs : Value) (c_tries : Value), cs = [.int .i64 x.fn] ++ ([.int .i64 x.at_] ++ ([.int .i64 x.fto] ++ ([.int .i64 x.gen] ++ ([.int .i64 x.self.1, .int .i64 x.self.2] ++ ([c_regs] ++ ([c_tries])))))) ∧ I64 x.fn ∧ I64 x.at_ ∧ I64 x.fto ∧ I64 x.gen ∧ I64 x.self.1 ∧ I64 x.self.2 ∧ Enc.rd w B [c_regs] x.regs ∧ Enc.rd w B [c_tries] x.tries
  len := by
    rintro w B cs x ⟨c_regs, c_tries, rfl, h0, h1, h2, h3, h4, h5, h6, h7⟩
    simp only [List.length_append, List.length_cons, List.length_nil]
  keep := by
    rintro w w2 B cs x ⟨c_regs, c_tries, rfl, h0, h1, h2, h3, h4, h5, h6, h7⟩ hk
    exact ⟨_, _, rfl, h0, h1, h2, h3, h4, h5, Enc.keep h6 hk, Enc.keep h7 hk⟩
  more := by
    rintro w B B2 cs x ⟨c_regs, c_tries, rfl, h0, h1, h2, h3, h4, h5, h6, h7⟩ hB
    exact ⟨_, _, rfl, h0, h1, h2, h3, h4, h5, Enc.more h6 hB, Enc.more h7 hB⟩

theorem At.fr_ {w : World} {B : Nat} {A : Option Addr} {l : List Fr} {k : Nat} (h : At w B A l) (hk : k < l.length) :
    ∃ b o x A_regs c_regs A_tries c_tries, A = some ⟨b, o, none⟩ ∧ b < B ∧ l[k]? = some x ∧ w.cell? ⟨b, o + k * 8, none⟩ = some (.int .i64 x.fn) ∧ w.cell? ⟨b, o + k * 8 + 1, none⟩ = some (.int .i64 x.at_) ∧ w.cell? ⟨b, o + k * 8 + 2, none⟩ = some (.int .i64 x.fto) ∧ w.cell? ⟨b, o + k * 8 + 3, none⟩ = some (.int .i64 x.gen) ∧ w.cell? ⟨b, o + k * 8 + 4, none⟩ = some (.int .i64 x.self.1) ∧ w.cell? ⟨b, o + k * 8 + 5, none⟩ = some (.int .i64 x.self.2) ∧ w.cell? ⟨b, o + k * 8 + 6, none⟩ = some (.slice A_regs x.regs.length c_regs) ∧ w.cell? ⟨b, o + k * 8 + 7, none⟩ = some (.slice A_tries x.tries.length c_tries) ∧ At w B A_regs x.regs ∧ (x.regs.length ≤ c_regs ∧ c_regs ≤ maxLen) ∧ At w B A_tries x.tries ∧ (x.tries.length ≤ c_tries ∧ c_tries ≤ maxLen) ∧ I64 x.fn ∧ I64 x.at_ ∧ I64 x.fto ∧ I64 x.gen ∧ I64 x.self.1 ∧ I64 x.self.2 := by
  obtain ⟨x, hx⟩ : ∃ x, l[k]? = some x := ⟨l[k], List.getElem?_eq_getElem hk⟩
  obtain ⟨b, o, cs, rfl, hb, hc, hr⟩ := h k x hx
  obtain ⟨c_regs, c_tries, rfl, h0, h1, h2, h3, h4, h5, h6, h7⟩ := hr
  obtain ⟨A_regs, d_regs, e6, l1_regs, l2_regs, -, at_regs⟩ := h6
  injection e6 with e6; subst e6
  obtain ⟨A_tries, d_tries, e7, l1_tries, l2_tries, -, at_tries⟩ := h7
  injection e7 with e7; subst e7
  exact ⟨b, o, x, A_regs, d_regs, A_tries, d_tries, rfl, hb, hx, hc 0 _ rfl, hc 1 _ rfl, hc 2 _ rfl, hc 3 _ rfl, hc 4 _ rfl, hc 5 _ rfl, hc 6 _ rfl, hc 7 _ rfl, at_regs, ⟨l1_regs, l2_regs⟩, at_tries, ⟨l1_tries, l2_tries⟩, h0, h1, h2, h3, h4, h5⟩

structure Ce where
  kind : Int
  num : Int
  vals : List (Int × Int)
  frames : List Fr

instance : Enc Ce where
  sz := 4
  rd w B cs x := ∃ (c_vals : Value) (c_frames : Value), cs = [.int .i64 x.kind] ++ ([.int .i64 x.num] ++ ([c_vals] ++ ([c_frames]))) ∧ I64 x.kind ∧ I64 x.num ∧ Enc.rd w B [c_vals] x.vals ∧ Enc.rd w B [c_frames] x.frames
  len := by
    rintro w B cs x ⟨c_vals, c_frames, rfl, h0, h1, h2, h3⟩
    simp only [List.length_append, List.length_cons, List.length_nil]
  keep := by
    rintro w w2 B cs x ⟨c_vals, c_frames, rfl, h0, h1, h2, h3⟩ hk
    exact ⟨_, _, rfl, h0, h1, Enc.keep h2 hk, Enc.keep h3 hk⟩
  more := by
    rintro w B B2 cs x ⟨c_vals, c_frames, rfl, h0, h1, h2, h3⟩ hB
    exact ⟨_, _, rfl, h0, h1, Enc.more h2 hB, Enc.more h3 hB⟩

theorem At.ce_ {w : World} {B : Nat} {A : Option Addr} {l : List Ce} {k : Nat} (h : At w B A l) (hk : k < l.length) :
    ∃ b o x A_vals c_vals A_frames c_frames, A = some ⟨b, o, none⟩ ∧ b < B ∧ l[k]? = some x ∧ w.cell? ⟨b, o + k * 4, none⟩ = some (.int .i64 x.kind) ∧ w.cell? ⟨b, o + k * 4 + 1, none⟩ = some (.int .i64 x.num) ∧ w.cell? ⟨b, o + k * 4 + 2, none⟩ = some (.slice A_vals x.vals.length c_vals) ∧ w.cell? ⟨b, o + k * 4 + 3, none⟩ = some (.slice A_frames x.frames.length c_frames) ∧ At w B A_vals x.vals ∧ (x.vals.length ≤ c_vals ∧ c_vals ≤ maxLen) ∧ At w B A_frames x.frames ∧ (x.frames.length ≤ c_frames ∧ c_frames ≤ maxLen) ∧ I64 x.kind ∧ I64 x.num := by
  obtain ⟨x, hx⟩ : ∃ x, l[k]? = some x := ⟨l[k], List.getElem?_eq_getElem hk⟩
  obtain ⟨b, o, cs, rfl, hb, hc, hr⟩ := h k x hx
  obtain ⟨c_vals, c_frames, rfl, h0, h1, h2, h3⟩ := hr
  obtain ⟨A_vals, d_vals, e2, l1_vals, l2_vals, -, at_vals⟩ := h2
  injection e2 with e2; subst e2
  obtain ⟨A_frames, d_frames, e3, l1_frames, l2_frames, -, at_frames⟩ := h3
  injection e3 with e3; subst e3
  exact ⟨b, o, x, A_vals, d_vals, A_frames, d_frames, rfl, hb, hx, hc 0 _ rfl, hc 1 _ rfl, hc 2 _ rfl, hc 3 _ rfl, at_vals, ⟨l1_vals, l2_vals⟩, at_frames, ⟨l1_frames, l2_frames⟩, h0, h1⟩

structure TI where
  op : Int
  a : Int
  b : Int
  c : Int
  n : Int
  exit : Int
  k : (Int × Int)

instance : Enc TI where
  sz := 8
  rd w B cs x := cs = [.int .i64 x.op] ++ ([.int .i64 x.a] ++ ([.int .i64 x.b] ++ ([.int .i64 x.c] ++ ([.int .i64 x.n] ++ ([.int .i64 x.exit] ++ ([.int .i64 x.k.1, .int .i64 x.k.2])))))) ∧ I64 x.op ∧ I64 x.a ∧ I64 x.b ∧ I64 x.c ∧ I64 x.n ∧ I64 x.exit ∧ I64 x.k.1 ∧ I64 x.k.2
  len h := by rw [h.1]; rfl
  keep h _ := h
  more h _ := h

theorem At.tI_ {w : World} {B : Nat} {A : Option Addr} {l : List TI} {k : Nat} (h : At w B A l) (hk : k < l.length) :
    ∃ b o x, A = some ⟨b, o, none⟩ ∧ b < B ∧ l[k]? = some x ∧ w.cell? ⟨b, o + k * 8, none⟩ = some (.int .i64 x.op) ∧ w.cell? ⟨b, o + k * 8 + 1, none⟩ = some (.int .i64 x.a) ∧ w.cell? ⟨b, o + k * 8 + 2, none⟩ = some (.int .i64 x.b) ∧ w.cell? ⟨b, o + k * 8 + 3, none⟩ = some (.int .i64 x.c) ∧ w.cell? ⟨b, o + k * 8 + 4, none⟩ = some (.int .i64 x.n) ∧ w.cell? ⟨b, o + k * 8 + 5, none⟩ = some (.int .i64 x.exit) ∧ w.cell? ⟨b, o + k * 8 + 6, none⟩ = some (.int .i64 x.k.1) ∧ w.cell? ⟨b, o + k * 8 + 7, none⟩ = some (.int .i64 x.k.2) ∧ I64 x.op ∧ I64 x.a ∧ I64 x.b ∧ I64 x.c ∧ I64 x.n ∧ I64 x.exit ∧ I64 x.k.1 ∧ I64 x.k.2 := by
  obtain ⟨x, hx⟩ : ∃ x, l[k]? = some x := ⟨l[k], List.getElem?_eq_getElem hk⟩
  obtain ⟨b, o, cs, rfl, hb, hc, hr⟩ := h k x hx
  obtain ⟨rfl, h0, h1, h2, h3, h4, h5, h6, h7⟩ := hr
  exact ⟨b, o, x, rfl, hb, hx, hc 0 _ rfl, hc 1 _ rfl, hc 2 _ rfl, hc 3 _ rfl, hc 4 _ rfl, hc 5 _ rfl, hc 6 _ rfl, hc 7 _ rfl, h0, h1, h2, h3, h4, h5, h6, h7⟩

structure TT where
  fn : Int
  at_ : Int
  loop : Int
  ins : List TI
  exits : List Ex
  turn : Ex
  back : Ex

instance : Enc TT where
  sz := 13
  rd w B cs x := ∃ (c_ins : Value) (c_exits : Value) (c_turn : List Value) (c_back : List Value), cs = [.int .i64 x.fn] ++ ([.int .i64 x.at_] ++ ([.int .i64 x.loop] ++ ([c_ins] ++ ([c_exits] ++ (c_turn ++ (c_back)))))) ∧ I64 x.fn ∧ I64 x.at_ ∧ I64 x.loop ∧ Enc.rd w B [c_ins] x.ins ∧ Enc.rd w B [c_exits] x.exits ∧ Enc.rd w B c_turn x.turn ∧ Enc.rd w B c_back x.back
  len := by
    rintro w B cs x ⟨c_ins, c_exits, c_turn, c_back, rfl, h0, h1, h2, h3, h4, h5, h6⟩
    have g5 := Enc.len h5
    have g6 := Enc.len h6
    simp only [List.length_append, List.length_cons, List.length_nil, g5, g6]
    rfl
  keep := by
    rintro w w2 B cs x ⟨c_ins, c_exits, c_turn, c_back, rfl, h0, h1, h2, h3, h4, h5, h6⟩ hk
    exact ⟨_, _, _, _, rfl, h0, h1, h2, Enc.keep h3 hk, Enc.keep h4 hk, Enc.keep h5 hk, Enc.keep h6 hk⟩
  more := by
    rintro w B B2 cs x ⟨c_ins, c_exits, c_turn, c_back, rfl, h0, h1, h2, h3, h4, h5, h6⟩ hB
    exact ⟨_, _, _, _, rfl, h0, h1, h2, Enc.more h3 hB, Enc.more h4 hB, Enc.more h5 hB, Enc.more h6 hB⟩

structure RM where
  cell : (Int × Int)
  kind : Int
  num : Int
  vals : List (Int × Int)

instance : Enc RM where
  sz := 5
  rd w B cs x := ∃ (c_vals : Value), cs = [.int .i64 x.cell.1, .int .i64 x.cell.2] ++ ([.int .i64 x.kind] ++ ([.int .i64 x.num] ++ ([c_vals]))) ∧ I64 x.cell.1 ∧ I64 x.cell.2 ∧ I64 x.kind ∧ I64 x.num ∧ Enc.rd w B [c_vals] x.vals
  len := by
    rintro w B cs x ⟨c_vals, rfl, h0, h1, h2, h3, h4⟩
    simp only [List.length_append, List.length_cons, List.length_nil]
  keep := by
    rintro w w2 B cs x ⟨c_vals, rfl, h0, h1, h2, h3, h4⟩ hk
    exact ⟨_, rfl, h0, h1, h2, h3, Enc.keep h4 hk⟩
  more := by
    rintro w B B2 cs x ⟨c_vals, rfl, h0, h1, h2, h3, h4⟩ hB
    exact ⟨_, rfl, h0, h1, h2, h3, Enc.more h4 hB⟩

theorem At.rM_ {w : World} {B : Nat} {A : Option Addr} {l : List RM} {k : Nat} (h : At w B A l) (hk : k < l.length) :
    ∃ b o x A_vals c_vals, A = some ⟨b, o, none⟩ ∧ b < B ∧ l[k]? = some x ∧ w.cell? ⟨b, o + k * 5, none⟩ = some (.int .i64 x.cell.1) ∧ w.cell? ⟨b, o + k * 5 + 1, none⟩ = some (.int .i64 x.cell.2) ∧ w.cell? ⟨b, o + k * 5 + 2, none⟩ = some (.int .i64 x.kind) ∧ w.cell? ⟨b, o + k * 5 + 3, none⟩ = some (.int .i64 x.num) ∧ w.cell? ⟨b, o + k * 5 + 4, none⟩ = some (.slice A_vals x.vals.length c_vals) ∧ At w B A_vals x.vals ∧ (x.vals.length ≤ c_vals ∧ c_vals ≤ maxLen) ∧ I64 x.cell.1 ∧ I64 x.cell.2 ∧ I64 x.kind ∧ I64 x.num := by
  obtain ⟨x, hx⟩ : ∃ x, l[k]? = some x := ⟨l[k], List.getElem?_eq_getElem hk⟩
  obtain ⟨b, o, cs, rfl, hb, hc, hr⟩ := h k x hx
  obtain ⟨c_vals, rfl, h0, h1, h2, h3, h4⟩ := hr
  obtain ⟨A_vals, d_vals, e4, l1_vals, l2_vals, -, at_vals⟩ := h4
  injection e4 with e4; subst e4
  exact ⟨b, o, x, A_vals, d_vals, rfl, hb, hx, hc 0 _ rfl, hc 1 _ rfl, hc 2 _ rfl, hc 3 _ rfl, hc 4 _ rfl, at_vals, ⟨l1_vals, l2_vals⟩, h0, h1, h2, h3⟩

structure RE where
  at_ : Int
  steps : Int
  sets : List (Int × Int × Int)
  makes : List RM

instance : Enc RE where
  sz := 4
  rd w B cs x := ∃ (c_sets : Value) (c_makes : Value), cs = [.int .i64 x.at_] ++ ([.int .i64 x.steps] ++ ([c_sets] ++ ([c_makes]))) ∧ I64 x.at_ ∧ I64 x.steps ∧ Enc.rd w B [c_sets] x.sets ∧ Enc.rd w B [c_makes] x.makes
  len := by
    rintro w B cs x ⟨c_sets, c_makes, rfl, h0, h1, h2, h3⟩
    simp only [List.length_append, List.length_cons, List.length_nil]
  keep := by
    rintro w w2 B cs x ⟨c_sets, c_makes, rfl, h0, h1, h2, h3⟩ hk
    exact ⟨_, _, rfl, h0, h1, Enc.keep h2 hk, Enc.keep h3 hk⟩
  more := by
    rintro w B B2 cs x ⟨c_sets, c_makes, rfl, h0, h1, h2, h3⟩ hB
    exact ⟨_, _, rfl, h0, h1, Enc.more h2 hB, Enc.more h3 hB⟩

theorem At.rE_ {w : World} {B : Nat} {A : Option Addr} {l : List RE} {k : Nat} (h : At w B A l) (hk : k < l.length) :
    ∃ b o x A_sets c_sets A_makes c_makes, A = some ⟨b, o, none⟩ ∧ b < B ∧ l[k]? = some x ∧ w.cell? ⟨b, o + k * 4, none⟩ = some (.int .i64 x.at_) ∧ w.cell? ⟨b, o + k * 4 + 1, none⟩ = some (.int .i64 x.steps) ∧ w.cell? ⟨b, o + k * 4 + 2, none⟩ = some (.slice A_sets x.sets.length c_sets) ∧ w.cell? ⟨b, o + k * 4 + 3, none⟩ = some (.slice A_makes x.makes.length c_makes) ∧ At w B A_sets x.sets ∧ (x.sets.length ≤ c_sets ∧ c_sets ≤ maxLen) ∧ At w B A_makes x.makes ∧ (x.makes.length ≤ c_makes ∧ c_makes ≤ maxLen) ∧ I64 x.at_ ∧ I64 x.steps := by
  obtain ⟨x, hx⟩ : ∃ x, l[k]? = some x := ⟨l[k], List.getElem?_eq_getElem hk⟩
  obtain ⟨b, o, cs, rfl, hb, hc, hr⟩ := h k x hx
  obtain ⟨c_sets, c_makes, rfl, h0, h1, h2, h3⟩ := hr
  obtain ⟨A_sets, d_sets, e2, l1_sets, l2_sets, -, at_sets⟩ := h2
  injection e2 with e2; subst e2
  obtain ⟨A_makes, d_makes, e3, l1_makes, l2_makes, -, at_makes⟩ := h3
  injection e3 with e3; subst e3
  exact ⟨b, o, x, A_sets, d_sets, A_makes, d_makes, rfl, hb, hx, hc 0 _ rfl, hc 1 _ rfl, hc 2 _ rfl, hc 3 _ rfl, at_sets, ⟨l1_sets, l2_sets⟩, at_makes, ⟨l1_makes, l2_makes⟩, h0, h1⟩

structure RO where
  op : Int
  a : Int
  b : Int
  c : Int
  n : Int
  exit : Int
  k : (Int × Int)

instance : Enc RO where
  sz := 8
  rd w B cs x := cs = [.int .i64 x.op] ++ ([.int .i64 x.a] ++ ([.int .i64 x.b] ++ ([.int .i64 x.c] ++ ([.int .i64 x.n] ++ ([.int .i64 x.exit] ++ ([.int .i64 x.k.1, .int .i64 x.k.2])))))) ∧ I64 x.op ∧ I64 x.a ∧ I64 x.b ∧ I64 x.c ∧ I64 x.n ∧ I64 x.exit ∧ I64 x.k.1 ∧ I64 x.k.2
  len h := by rw [h.1]; rfl
  keep h _ := h
  more h _ := h

theorem At.rO_ {w : World} {B : Nat} {A : Option Addr} {l : List RO} {k : Nat} (h : At w B A l) (hk : k < l.length) :
    ∃ b o x, A = some ⟨b, o, none⟩ ∧ b < B ∧ l[k]? = some x ∧ w.cell? ⟨b, o + k * 8, none⟩ = some (.int .i64 x.op) ∧ w.cell? ⟨b, o + k * 8 + 1, none⟩ = some (.int .i64 x.a) ∧ w.cell? ⟨b, o + k * 8 + 2, none⟩ = some (.int .i64 x.b) ∧ w.cell? ⟨b, o + k * 8 + 3, none⟩ = some (.int .i64 x.c) ∧ w.cell? ⟨b, o + k * 8 + 4, none⟩ = some (.int .i64 x.n) ∧ w.cell? ⟨b, o + k * 8 + 5, none⟩ = some (.int .i64 x.exit) ∧ w.cell? ⟨b, o + k * 8 + 6, none⟩ = some (.int .i64 x.k.1) ∧ w.cell? ⟨b, o + k * 8 + 7, none⟩ = some (.int .i64 x.k.2) ∧ I64 x.op ∧ I64 x.a ∧ I64 x.b ∧ I64 x.c ∧ I64 x.n ∧ I64 x.exit ∧ I64 x.k.1 ∧ I64 x.k.2 := by
  obtain ⟨x, hx⟩ : ∃ x, l[k]? = some x := ⟨l[k], List.getElem?_eq_getElem hk⟩
  obtain ⟨b, o, cs, rfl, hb, hc, hr⟩ := h k x hx
  obtain ⟨rfl, h0, h1, h2, h3, h4, h5, h6, h7⟩ := hr
  exact ⟨b, o, x, rfl, hb, hx, hc 0 _ rfl, hc 1 _ rfl, hc 2 _ rfl, hc 3 _ rfl, hc 4 _ rfl, hc 5 _ rfl, hc 6 _ rfl, hc 7 _ rfl, h0, h1, h2, h3, h4, h5, h6, h7⟩

structure RC where
  fn : Int
  at_ : Int
  loop : Int
  slots : Int
  orders : List RO
  exits : List RE
  turn : RE
  back : RE

instance : Enc RC where
  sz := 14
  rd w B cs x := ∃ (c_orders : Value) (c_exits : Value) (c_turn : List Value) (c_back : List Value), cs = [.int .i64 x.fn] ++ ([.int .i64 x.at_] ++ ([.int .i64 x.loop] ++ ([.int .i64 x.slots] ++ ([c_orders] ++ ([c_exits] ++ (c_turn ++ (c_back))))))) ∧ I64 x.fn ∧ I64 x.at_ ∧ I64 x.loop ∧ I64 x.slots ∧ Enc.rd w B [c_orders] x.orders ∧ Enc.rd w B [c_exits] x.exits ∧ Enc.rd w B c_turn x.turn ∧ Enc.rd w B c_back x.back
  len := by
    rintro w B cs x ⟨c_orders, c_exits, c_turn, c_back, rfl, h0, h1, h2, h3, h4, h5, h6, h7⟩
    have g6 := Enc.len h6
    have g7 := Enc.len h7
    simp only [List.length_append, List.length_cons, List.length_nil, g6, g7]
    rfl
  keep := by
    rintro w w2 B cs x ⟨c_orders, c_exits, c_turn, c_back, rfl, h0, h1, h2, h3, h4, h5, h6, h7⟩ hk
    exact ⟨_, _, _, _, rfl, h0, h1, h2, h3, Enc.keep h4 hk, Enc.keep h5 hk, Enc.keep h6 hk, Enc.keep h7 hk⟩
  more := by
    rintro w B B2 cs x ⟨c_orders, c_exits, c_turn, c_back, rfl, h0, h1, h2, h3, h4, h5, h6, h7⟩ hB
    exact ⟨_, _, _, _, rfl, h0, h1, h2, h3, Enc.more h4 hB, Enc.more h5 hB, Enc.more h6 hB, Enc.more h7 hB⟩

structure Gr where
  has : List (List Int)
  roots : List Int

instance : Enc Gr where
  sz := 2
  rd w B cs x := ∃ (c_has : Value) (c_roots : Value), cs = [c_has] ++ ([c_roots]) ∧ Enc.rd w B [c_has] x.has ∧ Enc.rd w B [c_roots] x.roots
  len := by
    rintro w B cs x ⟨c_has, c_roots, rfl, h0, h1⟩
    simp only [List.length_append, List.length_cons, List.length_nil]
  keep := by
    rintro w w2 B cs x ⟨c_has, c_roots, rfl, h0, h1⟩ hk
    exact ⟨_, _, rfl, Enc.keep h0 hk, Enc.keep h1 hk⟩
  more := by
    rintro w B B2 cs x ⟨c_has, c_roots, rfl, h0, h1⟩ hB
    exact ⟨_, _, rfl, Enc.more h0 hB, Enc.more h1 hB⟩

theorem At.gr_ {w : World} {B : Nat} {A : Option Addr} {l : List Gr} {k : Nat} (h : At w B A l) (hk : k < l.length) :
    ∃ b o x A_has c_has A_roots c_roots, A = some ⟨b, o, none⟩ ∧ b < B ∧ l[k]? = some x ∧ w.cell? ⟨b, o + k * 2, none⟩ = some (.slice A_has x.has.length c_has) ∧ w.cell? ⟨b, o + k * 2 + 1, none⟩ = some (.slice A_roots x.roots.length c_roots) ∧ At w B A_has x.has ∧ (x.has.length ≤ c_has ∧ c_has ≤ maxLen) ∧ At w B A_roots x.roots ∧ (x.roots.length ≤ c_roots ∧ c_roots ≤ maxLen) := by
  obtain ⟨x, hx⟩ : ∃ x, l[k]? = some x := ⟨l[k], List.getElem?_eq_getElem hk⟩
  obtain ⟨b, o, cs, rfl, hb, hc, hr⟩ := h k x hx
  obtain ⟨c_has, c_roots, rfl, h0, h1⟩ := hr
  obtain ⟨A_has, d_has, e0, l1_has, l2_has, -, at_has⟩ := h0
  injection e0 with e0; subst e0
  obtain ⟨A_roots, d_roots, e1, l1_roots, l2_roots, -, at_roots⟩ := h1
  injection e1 with e1; subst e1
  exact ⟨b, o, x, A_has, d_has, A_roots, d_roots, rfl, hb, hx, hc 0 _ rfl, hc 1 _ rfl, at_has, ⟨l1_has, l2_has⟩, at_roots, ⟨l1_roots, l2_roots⟩⟩

structure Hp where
  words : List U64
  roots : List U64

instance : Enc Hp where
  sz := 2
  rd w B cs x := ∃ (c_words : Value) (c_roots : Value), cs = [c_words] ++ ([c_roots]) ∧ Enc.rd w B [c_words] x.words ∧ Enc.rd w B [c_roots] x.roots
  len := by
    rintro w B cs x ⟨c_words, c_roots, rfl, h0, h1⟩
    simp only [List.length_append, List.length_cons, List.length_nil]
  keep := by
    rintro w w2 B cs x ⟨c_words, c_roots, rfl, h0, h1⟩ hk
    exact ⟨_, _, rfl, Enc.keep h0 hk, Enc.keep h1 hk⟩
  more := by
    rintro w B B2 cs x ⟨c_words, c_roots, rfl, h0, h1⟩ hB
    exact ⟨_, _, rfl, Enc.more h0 hB, Enc.more h1 hB⟩

theorem At.hp_ {w : World} {B : Nat} {A : Option Addr} {l : List Hp} {k : Nat} (h : At w B A l) (hk : k < l.length) :
    ∃ b o x A_words c_words A_roots c_roots, A = some ⟨b, o, none⟩ ∧ b < B ∧ l[k]? = some x ∧ w.cell? ⟨b, o + k * 2, none⟩ = some (.slice A_words x.words.length c_words) ∧ w.cell? ⟨b, o + k * 2 + 1, none⟩ = some (.slice A_roots x.roots.length c_roots) ∧ At w B A_words x.words ∧ (x.words.length ≤ c_words ∧ c_words ≤ maxLen) ∧ At w B A_roots x.roots ∧ (x.roots.length ≤ c_roots ∧ c_roots ≤ maxLen) := by
  obtain ⟨x, hx⟩ : ∃ x, l[k]? = some x := ⟨l[k], List.getElem?_eq_getElem hk⟩
  obtain ⟨b, o, cs, rfl, hb, hc, hr⟩ := h k x hx
  obtain ⟨c_words, c_roots, rfl, h0, h1⟩ := hr
  obtain ⟨A_words, d_words, e0, l1_words, l2_words, -, at_words⟩ := h0
  injection e0 with e0; subst e0
  obtain ⟨A_roots, d_roots, e1, l1_roots, l2_roots, -, at_roots⟩ := h1
  injection e1 with e1; subst e1
  exact ⟨b, o, x, A_words, d_words, A_roots, d_roots, rfl, hb, hx, hc 0 _ rfl, hc 1 _ rfl, at_words, ⟨l1_words, l2_words⟩, at_roots, ⟨l1_roots, l2_roots⟩⟩

structure De where
  do_ : Int
  a : Int
  b : Int
  n : Int

instance : Enc De where
  sz := 4
  rd w B cs x := cs = [.int .i64 x.do_] ++ ([.int .i64 x.a] ++ ([.int .i64 x.b] ++ ([.int .i64 x.n]))) ∧ I64 x.do_ ∧ I64 x.a ∧ I64 x.b ∧ I64 x.n
  len h := by rw [h.1]; rfl
  keep h _ := h
  more h _ := h

theorem At.de_ {w : World} {B : Nat} {A : Option Addr} {l : List De} {k : Nat} (h : At w B A l) (hk : k < l.length) :
    ∃ b o x, A = some ⟨b, o, none⟩ ∧ b < B ∧ l[k]? = some x ∧ w.cell? ⟨b, o + k * 4, none⟩ = some (.int .i64 x.do_) ∧ w.cell? ⟨b, o + k * 4 + 1, none⟩ = some (.int .i64 x.a) ∧ w.cell? ⟨b, o + k * 4 + 2, none⟩ = some (.int .i64 x.b) ∧ w.cell? ⟨b, o + k * 4 + 3, none⟩ = some (.int .i64 x.n) ∧ I64 x.do_ ∧ I64 x.a ∧ I64 x.b ∧ I64 x.n := by
  obtain ⟨x, hx⟩ : ∃ x, l[k]? = some x := ⟨l[k], List.getElem?_eq_getElem hk⟩
  obtain ⟨b, o, cs, rfl, hb, hc, hr⟩ := h k x hx
  obtain ⟨rfl, h0, h1, h2, h3⟩ := hr
  exact ⟨b, o, x, rfl, hb, hx, hc 0 _ rfl, hc 1 _ rfl, hc 2 _ rfl, hc 3 _ rfl, h0, h1, h2, h3⟩

end Go.Proofs.Ytljdnadejmkaeaa

/- order.Check, as plain Lean: which error an RCode has. -/
namespace Go.Proofs.Ytljdnadejmkaeaa
open Go.RowKit
namespace Ord

structure Form where
  rd : List Nat
  wr : Bool
  low : Int
  high : Int
  number : Bool
  k : Bool
  exit : Int

def formHeap (op : Int) : Option Form :=
  if op = 13 then some ⟨[1], true, 0, 99, false, false, 0⟩
  else if op = 14 then some ⟨[0, 1], false, 0, 99, false, false, 0⟩
  else if op = 15 then some ⟨[0, 1], false, 1, 1073741824, false, false, 2⟩
  else if op = 16 then some ⟨[1, 2], true, 0, 0, false, false, 2⟩
  else if op = 17 then some ⟨[0, 1, 2], false, 0, 0, false, false, 2⟩
  else if op = 18 then some ⟨[1], true, 0, 0, false, false, 0⟩
  else if op = 19 then some ⟨[], true, 1, 3, false, false, 2⟩
  else if op = 20 then some ⟨[0, 1], false, 0, 0, false, false, 1⟩
  else if op = 21 then some ⟨[], true, 0, 0, false, false, 2⟩
  else if op = 22 then some ⟨[], false, 0, 1073741824, true, false, 2⟩
  else none
/-- the form of an order, if it is one -/
def form (op : Int) : Option Form :=
  if op = 1 then some ⟨[1], true, 0, 0, false, false, 0⟩
  else if op = 2 then some ⟨[], true, 0, 0, false, true, 0⟩
  else if op = 3 then some ⟨[0], false, 0, 300, false, false, 0⟩
  else if op = 4 then some ⟨[], true, 0, 300, false, false, 0⟩
  else if op = 5 then some ⟨[], true, 0, 1073741824, false, false, 0⟩
  else if op = 6 then some ⟨[], true, 0, 0, false, false, 0⟩
  else if op = 7 then some ⟨[0], false, 0, 6, false, false, 2⟩
  else if op = 8 then some ⟨[0], false, 0, 1, false, false, 2⟩
  else if op = 9 then some ⟨[0], false, 0, 0, false, true, 2⟩
  else if op = 10 then some ⟨[1, 2], true, 3, 10, false, false, 1⟩
  else if op = 11 then some ⟨[1], true, 11, 12, false, false, 1⟩
  else if op = 12 then some ⟨[0], false, 1, 7, true, false, 2⟩
  else formHeap op

def form0 : Form := ⟨[], false, 0, 0, false, false, 0⟩
def theForm (op : Int) : Form := (form op).getD form0
/-- an order's fields A, B, C -/
def fld (x : RO) : Nat → Int
  | 0 => x.a
  | 1 => x.b
  | _ => x.c
def reads (x : RO) : List Int := (theForm x.op).rd.map (fld x)
def writes (x : RO) : Int := if (theForm x.op).wr then x.a else -1

structure St where
  regs : List Bool
  slots : List Bool

def isReg (n : Int) : Bool := decide (0 ≤ n ∧ n < 8)
def hasR (p : Int × Int) : Bool := (p.2 == -1 && decide (0 ≤ p.1)) && decide (p.1 < 8)
def hasS (n : Nat) (p : Int × Int) : Bool := (p.1 == -1 && decide (0 ≤ p.2)) && decide (p.2 < n)
def has (st : St) (p : Int × Int) : Bool :=
  if hasR p then st.regs.getD p.1.toNat false else if hasS st.slots.length p then st.slots.getD p.2.toNat false else false
def places (x : RE) : List (Int × Int) := x.sets.map (·.2) ++ x.makes.flatMap fun m => m.cell :: m.vals
def all_ (st : St) (x : RE) : Bool := !(places x).any fun p => !has st p

def used (f : Form) (i : Nat) : Bool := f.wr && i == 0 || f.number && i == 1 || f.rd.contains i
def idle (f : Form) (x : RO) : List Int := ([0, 1, 2].filter fun i => !used f i).map (fld x)
def boxBad (k : Int × Int) : Bool :=
  decide (k.1 < 0 ∨ 6 < k.1) || (k.1 != 3 && decide (k.2 < (if k.1 = 2 then -2147483648 else 0) ∨ (if k.1 = 0 then 0 else if k.1 = 1 then 1 else if k.1 = 2 then 2147483647 else 4294967295) < k.2))
def numOf (f : Form) (x : RO) : Bool := f.number && !(x.op == 12 && x.n != 1)
def withNum (f : Form) (b : Bool) : Form := ⟨f.rd, f.wr, f.low, f.high, b, f.k, f.exit⟩
def c4 (f : Form) (x : RO) : Bool := (idle (withNum f (numOf f x)) x).any (· != 0)
def c5 (f : Form) (x : RO) : Bool := numOf f x && (decide (x.b < 0) || decide (1073741824 < x.b))
def c7 (f : Form) (x : RO) : Bool := f.wr && !isReg x.a
def c8 (f : Form) (x : RO) : Bool := decide (x.n < f.low) || decide (f.high < x.n)
def c10 (f : Form) (x : RO) : Bool := !f.k && !(x.k.1 == 0 && x.k.2 == 0)
def c11 (f : Form) (x : RO) : Bool := f.k && boxBad x.k
def c13 (x : RO) (slots : Int) : Bool := (x.op == 3 || x.op == 4) && decide (slots ≤ x.n)
def c15 (f : Form) (x : RO) : Bool := f.exit == 0 || f.exit == 1 && x.exit == -1
def right (f : Form) (x : RO) (slots : Int) (nex : Nat) : Bool :=
  if c4 f x then false else if c5 f x then false else if c7 f x then false else if c8 f x then false else if c10 f x then false else if c11 f x then false
  else if c13 x slots then false else if c15 f x then x.exit == -1 else decide (0 ≤ x.exit) && decide (x.exit < nex)

def readOk (st : St) (r : Int) : Bool := isReg r && st.regs.getD r.toNat false
/-- what an order leaves written -/
def after (st : St) (x : RO) : St :=
  let s1 := if x.op = 3 then st.slots.set x.n.toNat true else st.slots
  let r1 := if 0 ≤ writes x then st.regs.set (writes x).toNat true else st.regs
  ⟨r1, s1⟩
def exitBad (st : St) (x : RO) (exits : List RE) : Bool := decide (0 ≤ x.exit) && !(match exits[x.exit.toNat]? with | some y => all_ st y | none => true)
/-- what is wrong with an order -/
def orderErr (st : St) (x : RO) (slots : Int) (exits : List RE) : Int :=
  if (form x.op).isNone then 7
  else if !right (theForm x.op) x slots exits.length then 3
  else if (reads x).any (fun r => !readOk st r) then 3
  else if x.op == 4 && !st.slots.getD x.n.toNat false then 3
  else if exitBad st x exits then 3
  else 0

def wide (m : RM) : Bool := decide (100 < (m.vals.length : Int))
def large (x : RE) : Bool := (decide (60 < (x.sets.length : Int)) || decide (300 < (x.makes.length : Int))) || x.makes.any wide
def bare (x : RE) : Bool := ((x.at_ == 0 && x.steps == 0) && (x.sets.length : Int) == 0) && (x.makes.length : Int) == 0
/-- do registers rise from one on, below the most? -/
def risingR : Int → List (Int × Int × Int) → Bool
  | _, [] => true
  | last, s :: l => !(decide (s.1 ≤ last) || decide (60 ≤ s.1)) && risingR s.1 l
def makeBad (m : RM) : Bool := ((decide (m.kind < 1) || decide (3 < m.kind)) || decide (m.num < 0)) || (decide (0 < m.num) && m.kind != 1)
def placeOk (slots : Int) (p : Int × Int) : Bool := (p.2 == -1 && isReg p.1) || ((p.1 == -1 && decide (0 ≤ p.2)) && decide (p.2 < slots))
def numsBad (x : RE) : Bool := (decide (x.at_ < 0) || decide (x.steps < 0)) || decide (200 < x.steps)
def formed (slots : Int) (x : RE) : Bool :=
  if numsBad x then false
  else if !risingR (-1) x.sets then false
  else if x.makes.any makeBad then false
  else !(places x).any fun p => !placeOk slots p

def allExits (c : RC) : List RE := c.turn :: c.back :: c.exits
def tooLarge (c : RC) : Bool := ((decide (1500 < (c.orders.length : Int)) || decide (200 < (c.exits.length : Int))) || decide (300 < c.slots)) || (allExits c).any large
def badNums (c : RC) : Bool := (((decide (c.slots < 0) || decide (c.fn < 0)) || decide (c.at_ < 0)) || decide (c.loop < 0)) || decide ((c.orders.length : Int) < c.loop)
def start (c : RC) : St := ⟨List.replicate 8 false, List.replicate c.slots.toNat false⟩
def turn0 (c : RC) : Bool := c.loop == 0 && bare c.turn
/-- what is written behind so many orders -/
def stK (c : RC) (k : Nat) : St := (c.orders.take k).foldl after (start c)
/-- is what the turn needs there, as far as so many orders tell? -/
def turnK (c : RC) (k : Nat) : Bool := if 0 < c.loop ∧ c.loop < k then all_ (stK c c.loop.toNat) c.turn else turn0 c
/-- the first error among so many orders -/
def errK (c : RC) : Nat → Int
  | 0 => 0
  | k + 1 => if errK c k ≠ 0 then errK c k else match c.orders[k]? with | some x => orderErr (stK c k) x c.slots c.exits | none => 0
def turnEnd (c : RC) : Bool := if 0 < c.loop ∧ c.loop = c.orders.length then all_ (stK c c.orders.length) c.turn else turnK c c.orders.length
def err (c : RC) : Int :=
  if tooLarge c then 2
  else if badNums c then 3
  else if errK c c.orders.length ≠ 0 then errK c c.orders.length
  else if !turnEnd c then 3
  else if !all_ (stK c c.orders.length) c.back then 3
  else if (allExits c).any (fun x => !formed c.slots x) then 3
  else 0

/-! ### bytes -/
/-- a number's sign to the last bit -/
def zig (n : Int) : Nat := if 0 ≤ n then n.toNat * 2 else (-(n + 1)).toNat * 2 + 1
def vb (u : Nat) : List Nat := if h : u < 128 then [u] else (u % 128 + 128) :: vb (u / 128)
termination_by u
decreasing_by omega
def numB (n : Int) : List Nat := vb (zig n)
def numsB (l : List Int) : List Nat := l.flatMap numB
def setNums (s : Int × Int × Int) : List Int := [s.1, s.2.1, s.2.2]
def makeNums (m : RM) : List Int := [m.cell.1, m.cell.2, m.kind, m.num, (m.vals.length : Int)] ++ m.vals.flatMap fun v => [v.1, v.2]
def exitNums (x : RE) : List Int := [x.at_, x.steps, (x.sets.length : Int)] ++ x.sets.flatMap setNums ++ [(x.makes.length : Int)] ++ x.makes.flatMap makeNums
def orderNums (x : RO) : List Int := [x.op, x.a, x.b, x.c, x.n, x.exit, x.k.1, x.k.2]
def codeNums (c : RC) : List Int := [c.fn, c.at_, c.loop, c.slots, (c.orders.length : Int)] ++ c.orders.flatMap orderNums ++ [(c.exits.length : Int)] ++ (c.exits ++ [c.turn, c.back]).flatMap exitNums
end Ord

end Go.Proofs.Ytljdnadejmkaeaa

/- Numbers as bytes: seven bits at a time. No program is named here. -/
namespace Go.Proofs.Ytljdnadejmkaeaa
open Go.RowKit

/-- a byte -/
structure U8 where
  val : Int
instance : Flat U8 where
  cells p := [.int .u8 p.val]
  sz := 1
  len _ := rfl
  ok p := 0 ≤ p.val ∧ p.val ≤ 255
theorem u8_one : ∀ x : U8, ∀ u ∈ Flat.cells x, u.oneCell' = true := by
  intro x u hu; simp [Flat.cells] at hu; subst hu; rfl

namespace Ord
def bys (l : List Nat) : List U8 := l.map fun (n : Nat) => (⟨n⟩ : U8)
theorem bys_append (a b : List Nat) : bys (a ++ b) = bys a ++ bys b := by simp [bys]
theorem bys_length (a : List Nat) : (bys a).length = a.length := by simp [bys]
theorem vb_lt {u : Nat} (h : u < 128) : vb u = [u] := by rw [vb]; simp [h]
theorem vb_ge {u : Nat} (h : ¬ u < 128) : vb u = (u % 128 + 128) :: vb (u / 128) := by rw [vb]; simp [h]
theorem vb_len : ∀ (k u : Nat), u < 128 ^ (k + 1) → (vb u).length ≤ k + 1
  | 0, u, h => by rw [vb_lt (by simpa using h)]; simp
  | k + 1, u, h => by
    by_cases hu : u < 128
    · rw [vb_lt hu]; simp
    · rw [vb_ge hu, List.length_cons]
      have := vb_len k (u / 128) (by rw [Nat.div_lt_iff_lt_mul (by decide)]; rw [Nat.pow_succ] at h; exact h)
      omega
theorem vb_len10 {u : Nat} (h : u < 18446744073709551616) : (vb u).length ≤ 10 := vb_len 9 u (Nat.lt_of_lt_of_le h (by decide +kernel))
theorem vb_pos (u : Nat) : 1 ≤ (vb u).length := by
  by_cases hu : u < 128
  · rw [vb_lt hu]; simp
  · rw [vb_ge hu]; simp
theorem vb_ok (u : Nat) : ∀ x ∈ vb u, x < 256 := by
  induction u using Nat.strongRecOn with
  | _ u ih =>
    by_cases hu : u < 128
    · rw [vb_lt hu]; intro x hx; simp at hx; omega
    · rw [vb_ge hu]
      intro x hx
      rcases List.mem_cons.1 hx with rfl | hx
      · omega
      · exact ih (u / 128) (by omega) x hx
theorem zig_lt {n : Int} (h : I64 n) : zig n < 18446744073709551616 := by
  unfold I64 at h; unfold zig; split <;> omega
theorem numB_len {n : Int} (h : I64 n) : (numB n).length ≤ 10 := vb_len10 (zig_lt h)
theorem bys_ok {l : List Nat} (h : ∀ x ∈ l, x < 256) : ∀ x ∈ bys l, Flat.ok x := by
  intro x hx
  unfold bys at hx
  obtain ⟨n, hn, rfl⟩ := List.mem_map.1 hx
  have := h n hn
  show (0 : Int) ≤ (n : Int) ∧ (n : Int) ≤ 255
  omega
theorem numB_ok (n : Int) : ∀ x ∈ numB n, x < 256 := vb_ok _
theorem numsB_ok (l : List Int) : ∀ x ∈ numsB l, x < 256 := by
  intro x hx
  obtain ⟨n, -, hn⟩ := List.mem_flatMap.1 hx
  exact numB_ok n x hn
theorem numsB_len {l : List Int} (h : ∀ x ∈ l, I64 x) : (numsB l).length ≤ l.length * 10 := by
  induction l with
  | nil => simp [numsB]
  | cons n l ih =>
    have h1 := numB_len (h n (by simp))
    have h2 := ih (fun x hx => h x (by simp [hx]))
    unfold numsB at h2 ⊢
    rw [List.flatMap_cons, List.length_append, List.length_cons]
    omega
theorem numsB_append (a b : List Int) : numsB (a ++ b) = numsB a ++ numsB b := by simp [numsB]
theorem numsB_nil : numsB [] = [] := rfl
theorem numsB_cons (n : Int) (l : List Int) : numsB (n :: l) = numB n ++ numsB l := by simp [numsB]
theorem numsB_take {l : List Int} {k : Nat} {x : Int} (h : l[k]? = some x) : numsB (l.take (k + 1)) = numsB (l.take k) ++ numB x := by
  rw [List.take_add_one, h, Option.toList_some, numsB_append]; simp [numsB]
theorem fm_take {α β : Type} (f : α → List β) {l : List α} {k : Nat} {x : α} (h : l[k]? = some x) : (l.take (k + 1)).flatMap f = (l.take k).flatMap f ++ f x := by
  rw [List.take_add_one, h, Option.toList_some, List.flatMap_append]; simp
theorem numsB_fm {α : Type} (f : α → List Int) (l : List α) : numsB (l.flatMap f) = l.flatMap fun x => numsB (f x) := by
  induction l with
  | nil => rfl
  | cons x l ih => rw [List.flatMap_cons, numsB_append, ih, List.flatMap_cons]
theorem fm_le {α β : Type} (f : α → List β) (l : List α) (n : Nat) (h : ∀ x ∈ l, (f x).length ≤ n) : (l.flatMap f).length ≤ l.length * n := by
  induction l with
  | nil => simp
  | cons x l ih =>
    have h1 := h x (by simp)
    have h2 := ih (fun y hy => h y (by simp [hy]))
    rw [List.flatMap_cons, List.length_append, List.length_cons, Nat.succ_mul]
    omega
end Ord

end Go.Proofs.Ytljdnadejmkaeaa

/-
  slices.Clone and the reference's Copy at plain element types: a list of the call's own that reads as the argument.
-/
namespace Go.Proofs.Ytljdnadejmkaeaa
open Go.RowKit

/-- what a copying call leaves: a slice of its own that holds the list -/
def Copied {α : Type} [Flat α] (E : TypeId) (l : List α) (w : World) (e : Ending) (w' : World) : Prop :=
  ∃ A' c', e = .returned (.slice A' l.length c') ∧ Own w' w.heap.size E A' c' l ∧ Below w.heap.size w w'

theorem own_new0 {α : Type} [Flat α] (w : World) (base : Nat) (E : TypeId) (cs : Array Value) (hcs : cs = #[]) (hb : base ≤ w.heap.size) : Own (α := α) (w.alloc (.cells cs E)) base E (some ⟨w.heap.size, 0, none⟩) 0 ([] : List α) :=
  World.ownsRow_made w cs 0 hb (by simp [maxLen]) (by simp [hcs])

theorem below_app {w w1 w' : World} {A : Option Addr} {B : Nat} (hb : Below B w w1) (hg : w1.grownBy w' (rowOf A)) (hB : B ≤ w1.heap.size) (hA : ∀ g, rowOf A = some g → B ≤ g) : Below B w w' := hb.grown hg hB hA

end Go.Proofs.Ytljdnadejmkaeaa

/- Elements of any type as plain rows of cells: 'Raw n'. A list that a slice reads as, of whatever type, reads as raw rows too; copying keeps the rows. -/
namespace Go.Proofs.Ytljdnadejmkaeaa
open Go.RowKit

structure Raw (n : Nat) where
  cs : List Value
  len : cs.length = n
  one : ∀ u ∈ cs, u.oneCell' = true

instance (n : Nat) : Flat (Raw n) where
  cells r := r.cs
  sz := n
  len r := r.len
  ok _ := True

def Raw.set {n : Nat} (r : Raw n) (j : Nat) (u : Value) (hu : u.oneCell' = true) : Raw n :=
  ⟨r.cs.set j u, by rw [List.length_set]; exact r.len, fun v hv => by
    rcases List.mem_or_eq_of_mem_set hv with h | h
    · exact r.one v h
    · rw [h]; exact hu⟩

theorem raw_one {n : Nat} : ∀ x : Raw n, ∀ u ∈ Flat.cells x, u.oneCell' = true := fun x u hu => x.one u hu

theorem At.raws {α : Type} [Enc α] {n : Nat} (hn : Enc.sz α = n) {w : World} {B : Nat} {A : Option Addr} {xs : List α} (h : At w B A xs)
    (hone : ∀ cs x, Enc.rd w B cs (x : α) → ∀ u ∈ cs, u.oneCell' = true) :
    ∃ rs : List (Raw n), rs.length = xs.length ∧ At w B A rs ∧ ∀ (i : Nat) (r : Raw n) (x : α), rs[i]? = some r → xs[i]? = some x → Enc.rd w B r.cs x := by
  subst hn
  have H : ∀ i : Fin xs.length, ∃ r : Raw (Enc.sz α), (∃ b o, A = some ⟨b, o, none⟩ ∧ b < B ∧ CellsAt w b (o + i.val * Enc.sz α) r.cs) ∧ Enc.rd w B r.cs xs[i.val] := by
    intro i
    obtain ⟨b, o, cs, hA, hb, hc, hr⟩ := h i.val xs[i.val] (List.getElem?_eq_getElem i.isLt)
    exact ⟨⟨cs, Enc.len hr, hone cs _ hr⟩, ⟨b, o, hA, hb, hc⟩, hr⟩
  obtain ⟨f, hf⟩ := Classical.axiomOfChoice H
  have get : ∀ (i : Nat) (r : Raw (Enc.sz α)), (List.ofFn f)[i]? = some r → ∃ hi : i < xs.length, r = f ⟨i, hi⟩ := by
    intro i r hr
    rw [List.getElem?_ofFn] at hr
    split at hr
    · rename_i hi
      injection hr with hr
      exact ⟨hi, hr.symm⟩
    · cases hr
  refine ⟨List.ofFn f, List.length_ofFn, fun i r hr => ?_, fun i r x hr hx => ?_⟩
  · obtain ⟨hi, rfl⟩ := get i r hr
    obtain ⟨⟨b, o, hA, hb, hc⟩, -⟩ := hf ⟨i, hi⟩
    exact ⟨b, o, (f ⟨i, hi⟩).cs, hA, hb, hc, rfl, trivial⟩
  · obtain ⟨hi, rfl⟩ := get i r hr
    have := (hf ⟨i, hi⟩).2
    have hx' : xs[i] = x := by rw [List.getElem?_eq_getElem hi] at hx; injection hx
    rw [← hx']; exact this

/-- one cell of an element stored -/
theorem Own.set_raw {n : Nat} {w : World} {base : Nat} {e : TypeId} {c : Nat} {l : List (Raw n)} {g i j : Nat} {x : Raw n} {u : Value} (h : Own w base e (some ⟨g, 0, none⟩) c l) (hx : l[i]? = some x) (hj : j < n) (hu : u.oneCell' = true) :
    Own (w.setCell ⟨g, i * n + j, none⟩ u) base e (some ⟨g, 0, none⟩) c (l.set i (x.set j u hu)) := h.set_ rfl hx hj rfl

theorem Own.raw_cell {n : Nat} {w : World} {base : Nat} {e : TypeId} {c : Nat} {l : List (Raw n)} {g : Nat} (h : Own w base e (some ⟨g, 0, none⟩) c l) {i j : Nat} {x : Raw n} {u : Value} (hx : l[i]? = some x) (hu : x.cs[j]? = some u) : w.cell? ⟨g, i * n + j, none⟩ = some u := by
  have hj : j < n := by have := (List.getElem?_eq_some_iff.1 hu).1; rw [x.len] at this; exact this
  have := h.cells_ (g := g) (o := 0) rfl (i * n + j) u ((flat_get l i j x hx hj).trans hu)
  rw [Nat.zero_add] at this; exact this
theorem Raw.has {n : Nat} (x : Raw n) (j : Nat) (hj : j < n) : ∃ u, x.cs[j]? = some u := ⟨_, List.getElem?_eq_getElem (by rw [x.len]; exact hj)⟩
theorem At.raw_cell {n : Nat} {w : World} {B : Nat} {b o : Nat} {l : List (Raw n)} (h : At w B (some ⟨b, o, none⟩) l) {i j : Nat} {x : Raw n} {u : Value} (hx : l[i]? = some x) (hu : x.cs[j]? = some u) : w.cell? ⟨b, o + i * n + j, none⟩ = some u := by
  obtain ⟨b', o', cs, hA, hb, hc, hr, -⟩ := h i x hx
  injection hA with hA; injection hA with h1 h2; subst h1 h2 hr
  exact hc j u hu

/-- two cells of an element stored: some raw row is owned -/
theorem Own.set_raw2 {n : Nat} {w : World} {base : Nat} {e : TypeId} {c : Nat} {l : List (Raw n)} {g i j k : Nat} {x : Raw n} {u v : Value} (h : Own w base e (some ⟨g, 0, none⟩) c l) (hx : l[i]? = some x) (hj : j < n) (hk : k < n) (hu : u.oneCell' = true) (hv : v.oneCell' = true) :
    Own ((w.setCell ⟨g, i * n + j, none⟩ u).setCell ⟨g, i * n + k, none⟩ v) base e (some ⟨g, 0, none⟩) c (l.set i ((x.set j u hu).set k v hv)) := by
  have hi : i < l.length := (List.getElem?_eq_some_iff.1 hx).1
  have h1 := h.set_raw hx hj hu
  have h2 := h1.set_raw (i := i) (x := x.set j u hu) (by rw [List.getElem?_set_self hi]) hk hv
  rw [List.set_set] at h2
  exact h2

theorem raw_ext {n : Nat} {a b : Raw n} (h : a.cs = b.cs) : a = b := by cases a; cases b; cases h; rfl
/-- a struct of four cells stored into an owned row -/
theorem Own.set_raw4 {w : World} {base : Nat} {e : TypeId} {c : Nat} {l : List (Raw 4)} {g i : Nat} {x : Raw 4} {u0 u1 u2 u3 : Value} (h : Own w base e (some ⟨g, 0, none⟩) c l) (hx : l[i]? = some x) (r : Raw 4) (hr : r.cs = [u0, u1, u2, u3]) :
    Own ((((w.setCell ⟨g, i * 4, none⟩ u0).setCell ⟨g, i * 4 + 1, none⟩ u1).setCell ⟨g, i * 4 + 2, none⟩ u2).setCell ⟨g, i * 4 + 3, none⟩ u3) base e (some ⟨g, 0, none⟩) c (l.set i r) := by
  have hi : i < l.length := (List.getElem?_eq_some_iff.1 hx).1
  have o0 := r.one u0 (by rw [hr]; simp)
  have o1 := r.one u1 (by rw [hr]; simp)
  have o2 := r.one u2 (by rw [hr]; simp)
  have o3 := r.one u3 (by rw [hr]; simp)
  have h0 := h.set_raw (j := 0) hx (by decide) o0
  have h1 := h0.set_raw (i := i) (j := 1) (x := x.set 0 u0 o0) (by rw [List.getElem?_set_self hi]) (by decide) o1
  rw [List.set_set] at h1
  have h2 := h1.set_raw (i := i) (j := 2) (x := (x.set 0 u0 o0).set 1 u1 o1) (by rw [List.getElem?_set_self hi]) (by decide) o2
  rw [List.set_set] at h2
  have h3 := h2.set_raw (i := i) (j := 3) (x := ((x.set 0 u0 o0).set 1 u1 o1).set 2 u2 o2) (by rw [List.getElem?_set_self hi]) (by decide) o3
  rw [List.set_set] at h3
  have hcs : (((x.set 0 u0 o0).set 1 u1 o1).set 2 u2 o2).set 3 u3 o3 = r := by
    apply raw_ext
    obtain ⟨cs, hlen, hone⟩ := x
    rcases cs with _ | ⟨a, _ | ⟨b, _ | ⟨c', _ | ⟨d, _ | ⟨f, cs⟩⟩⟩⟩⟩ <;> simp at hlen
    rw [hr]; rfl
  rw [hcs] at h3
  exact h3

/-- lists of flat data over a store into another block -/
theorem At.far_ {α : Type} [Flat α] {w : World} {B : Nat} {A : Option Addr} {xs : List α} (h : At w B A xs) {p : Addr} (hp : rowOf A ≠ some p.block) (u : Value) : At (w.setCell p u) B A xs := by
  intro i x hx
  obtain ⟨b, o, cs, rfl, hb, hc, hr⟩ := h i x hx
  exact ⟨b, o, cs, rfl, hb, hc.keep fun q hq => World.cell?_setCell_other w p q u (fun e => hp (by subst e; simp [rowOf, hq])), hr⟩
theorem At.grown_ {α : Type} [Flat α] {w w' : World} {B : Nat} {A : Option Addr} {xs : List α} (h : At w B A xs) (hB : B ≤ w.heap.size) {row : Option Nat} (hg : w.grownBy w' row) (hr : ∀ g, rowOf A = some g → row ≠ some g) : At w' B A xs := by
  intro i x hx
  obtain ⟨b, o, cs, rfl, hb, hc, hr'⟩ := h i x hx
  refine ⟨b, o, cs, rfl, hb, hc.keep fun q hq => ?_, hr'⟩
  unfold World.cell?
  rw [hq, hg.block b (by omega) (fun e => hr b rfl e.symm)]

end Go.Proofs.Ytljdnadejmkaeaa

/- Lists of bools, of ints, of lists: cells read and stored; rows of different types are apart. -/
namespace Go.Proofs.Ytljdnadejmkaeaa
open Go.RowKit

instance : Flat Bool where
  cells b := [.bool b]
  sz := 1
  len _ := rfl
  ok _ := True
theorem bool_one : ∀ x : Bool, ∀ u ∈ Flat.cells x, u.oneCell' = true := by
  intro x u hu; simp [Flat.cells] at hu; subst hu; rfl

theorem At.bool_ {w : World} {B : Nat} {A : Option Addr} {l : List Bool} {k : Nat} (h : At w B A l) (hk : k < l.length) :
    ∃ b o x, A = some ⟨b, o, none⟩ ∧ b < B ∧ l[k]? = some x ∧ w.cell? ⟨b, o + k, none⟩ = some (.bool x) := by
  obtain ⟨x, hx⟩ : ∃ x, l[k]? = some x := ⟨l[k], List.getElem?_eq_getElem hk⟩
  obtain ⟨b, o, cs, rfl, hb, hc, rfl, hok⟩ := h k x hx
  have h0 := hc 0 _ rfl
  simp only [Flat.sz, Enc.sz, Nat.mul_one, Nat.add_zero] at h0
  exact ⟨b, o, x, rfl, hb, hx, h0⟩
theorem At.slice_ {α : Type} [Enc α] {w : World} {B : Nat} {A : Option Addr} {l : List (List α)} {k : Nat} (h : At w B A l) (hk : k < l.length) :
    ∃ b o x A' c', A = some ⟨b, o, none⟩ ∧ b < B ∧ l[k]? = some x ∧ w.cell? ⟨b, o + k, none⟩ = some (.slice A' x.length c') ∧ At w B A' x ∧ x.length ≤ c' ∧ c' ≤ maxLen := by
  obtain ⟨x, hx⟩ : ∃ x, l[k]? = some x := ⟨l[k], List.getElem?_eq_getElem hk⟩
  obtain ⟨b, o, cs, rfl, hb, hc, A', c', rfl, h1, h2, -, h3⟩ := h k x hx
  have h0 := hc 0 _ rfl
  rw [show o + k * Enc.sz (List α) + 0 = o + k from by show o + k * 1 + 0 = o + k; omega] at h0
  exact ⟨b, o, x, A', c', rfl, hb, hx, h0, h3, h1, h2⟩
theorem At.nil_len {α : Type} [Enc α] {w : World} {B : Nat} {l : List α} (h : At w B none l) : l = [] := by
  rcases l with _ | ⟨x, l⟩
  · rfl
  · obtain ⟨b, o, cs, hA, -⟩ := h 0 x rfl
    cases hA

section
variable {α β : Type} [Flat α] [Flat β] {w : World} {base base' : Nat} {e e' : TypeId} {A A' : Option Addr} {c c' : Nat} {l : List α} {l' : List β}
theorem own_ne_ty (h : Own w base e A c l) {g : Nat} {t : TypeId} {cs : Array Value} (hg : Blk w g t cs) (hne : e ≠ t) : rowOf A ≠ some g := by
  intro hA
  rcases h.2 with ⟨h1, _⟩ | ⟨g', cap, cur, hv, _, hh, _⟩
  · injection h1 with h3; rw [h3] at hA; cases hA
  · injection hv with h3; rw [h3] at hA; injection hA with hA; simp only at hA; subst hA
    unfold Blk at hg
    rw [hh] at hg
    injection hg with hg; injection hg with _ hg _
    exact hne hg
theorem own_own_ty (h : Own w base e A c l) (h' : Own w base' e' A' c' l') (hne : e ≠ e') : ∀ g, rowOf A = some g → rowOf A' ≠ some g := by
  intro g hA hA'
  rcases h'.2 with ⟨h1, _⟩ | ⟨g', cap, cur, hv, _, hh, _⟩
  · injection h1 with h3; rw [h3] at hA'; cases hA'
  · injection hv with h3; rw [h3] at hA'; injection hA' with hA'; simp only at hA'; subst hA'
    rcases h.2 with ⟨h1, _⟩ | ⟨g2, cap2, cur2, hv2, _, hh2, _⟩
    · injection h1 with h3; rw [h3] at hA; cases hA
    · injection hv2 with h3; rw [h3] at hA; injection hA with hA; simp only at hA; subst hA
      rw [hh] at hh2
      injection hh2 with hh2; injection hh2 with _ hh2 _
      exact hne hh2.symm
theorem flat_take (l : List α) (k : Nat) (hk : k ≤ l.length) : (flat l).take (k * Flat.sz α) = flat (l.take k) := by
  have h := flat_append (l.take k) (l.drop k)
  rw [List.take_append_drop] at h
  rw [h, List.take_left' (by rw [flat_length, List.length_take, Nat.min_eq_left hk])]
theorem Own.take_ (h : Own w base e A c l) (k : Nat) (hk : k ≤ l.length) : Own w base e A c (l.take k) := by
  have hl : (l.take k).length = k := by rw [List.length_take]; omega
  have hf := flat_take l k hk
  refine ⟨flat_length _, ?_⟩
  rw [hl]
  rcases h.2 with ⟨h1, h2⟩ | ⟨g, cap, cur, hv, hg, hh, h1, h2, h3, h4⟩
  · injection h1 with h3 h4 h5
    have : k = 0 := by omega
    subst this
    exact .inl ⟨by rw [h3, h5], rfl⟩
  · injection hv with h5 _ h6
    subst h6
    refine .inr ⟨g, c, cur, by rw [h5], hg, hh, by omega, h2, h3, ?_⟩
    rw [← hf, ← h4, List.take_take, Nat.min_eq_left (Nat.mul_le_mul_right _ hk)]
theorem Own.ok_take {k : Nat} (h : ∀ x ∈ l, Flat.ok x) : ∀ x ∈ l.take k, Flat.ok x := fun x hx => h x (List.mem_of_mem_take hx)
end

theorem Own.set_bool {w : World} {base : Nat} {e : TypeId} {c : Nat} {l : List Bool} {g i : Nat} (b : Bool) (h : Own w base e (some ⟨g, 0, none⟩) c l) (hi : i < l.length) : Own (w.setCell ⟨g, i, none⟩ (.bool b)) base e (some ⟨g, 0, none⟩) c (l.set i b) := by
  have := h.set_ (i := i) (j := 0) (x := l[i]) (y := b) (u := .bool b) rfl (List.getElem?_eq_getElem hi) (by decide) rfl
  simpa [Flat.sz] using this
theorem Own.set_int {w : World} {base : Nat} {e : TypeId} {c : Nat} {l : List Int} {g i : Nat} (b : Int) (h : Own w base e (some ⟨g, 0, none⟩) c l) (hi : i < l.length) : Own (w.setCell ⟨g, i, none⟩ (.int .i64 b)) base e (some ⟨g, 0, none⟩) c (l.set i b) := by
  have := h.set_ (i := i) (j := 0) (x := l[i]) (y := b) (u := .int .i64 b) rfl (List.getElem?_eq_getElem hi) (by decide) rfl
  simpa [Flat.sz] using this
theorem Own.cell_bool {w : World} {base : Nat} {e : TypeId} {c : Nat} {l : List Bool} {g i : Nat} {b : Bool} (h : Own w base e (some ⟨g, 0, none⟩) c l) (hi : l[i]? = some b) : w.cell? ⟨g, i, none⟩ = some (.bool b) := by
  have := h.cells_ (g := g) (o := 0) rfl (i * 1 + 0) (.bool b) (flat_get l i 0 b hi (by decide))
  simpa using this
theorem Own.cell_int {w : World} {base : Nat} {e : TypeId} {c : Nat} {l : List Int} {g i : Nat} {b : Int} (h : Own w base e (some ⟨g, 0, none⟩) c l) (hi : l[i]? = some b) : w.cell? ⟨g, i, none⟩ = some (.int .i64 b) := by
  have := h.cells_ (g := g) (o := 0) rfl (i * 1 + 0) (.int .i64 b) (flat_get l i 0 b hi (by decide))
  simpa using this

end Go.Proofs.Ytljdnadejmkaeaa

/- Rows of the call's own cut short in place: clear of a tail, append within the room. No program is named here. -/
namespace Go.Proofs.Ytljdnadejmkaeaa
open Go.RowKit

theorem grownBy_setCell (w : World) (g o : Nat) (u : Value) : w.grownBy (w.setCell ⟨g, o, none⟩ u) (some g) :=
  ⟨rfl, rfl, rfl, by simp [World.setCell], fun k _ hk => Below.heap_setCell w ⟨g, o, none⟩ u k (fun e => hk (by rw [e]))⟩
theorem grownBy_setCells (g : Nat) : ∀ (vs : List Value) (o : Nat) (w : World), w.grownBy (w.setCells g o vs) (some g)
  | [], _, w => World.grownBy.refl w _
  | v :: r, o, w => (grownBy_setCell w g o v).trans (grownBy_setCells g r (o + 1) _)
theorem grownBy_drew (w : World) (row : Option Nat) : w.grownBy w.drew row := ⟨rfl, rfl, rfl, Nat.le_refl _, fun _ _ _ => rfl⟩
theorem grownBy_drewN {w w' : World} {row : Option Nat} (h : w.grownBy w' row) (n : Nat) : w.grownBy (w'.drewN n) row := ⟨h.os, h.tape, h.output, h.size, h.block⟩
theorem grownBy_undrew {w w' : World} {row : Option Nat} (h : w.drew.grownBy w' row) : w.grownBy w' row := ⟨h.os, h.tape, h.output, h.size, h.block⟩
theorem grownBy_below {w w' : World} (row : Option Nat) (h : Below w.heap.size w w') : w.grownBy w' row := ⟨h.os, h.tape, h.output, h.size, fun k hk _ => h.block k hk⟩
theorem below_grown {w w' : World} {B g : Nat} (h : w.grownBy w' (some g)) (hB : B ≤ g) (hBw : B ≤ w.heap.size) : Below B w w' := (Below.refl _ _).grown h hBw (fun k hk => by injection hk with hk; omega)

section
variable {α : Type} [Flat α] {w : World} {base : Nat} {e : TypeId} {c g : Nat} {l : List α}
theorem Own.setCell_tail (h : Own w base e (some ⟨g, 0, none⟩) c l) {j : Nat} (hj : l.length * Flat.sz α ≤ j) (u : Value) : Own (w.setCell ⟨g, j, none⟩ u) base e (some ⟨g, 0, none⟩) c l := by
  refine ⟨h.1, ?_⟩
  rcases h.2 with ⟨h1, _⟩ | ⟨g', cap, cur, hv, hg, hh, h1, h2, h3, h4⟩
  · injection h1 with h1; cases h1
  · injection hv with h5 _ h6; injection h5 with h5; injection h5 with h5; subst h5 h6
    refine .inr ⟨g, c, cur.setIfInBounds j u, rfl, hg, ?_, h1, h2, by rw [Array.size_setIfInBounds]; exact h3, ?_⟩
    · simp [World.setCell, Array.getElem?_modify, hh]
    · rw [Array.toList_setIfInBounds, List.take_set_of_le hj, h4]
theorem Own.setCells_tail : ∀ (vs : List Value) (j : Nat) (w : World), Own w base e (some ⟨g, 0, none⟩) c l → l.length * Flat.sz α ≤ j → Own (w.setCells g j vs) base e (some ⟨g, 0, none⟩) c l
  | [], _, _, h, _ => h
  | v :: r, j, w, h, hj => Own.setCells_tail r (j + 1) _ (h.setCell_tail hj v) (by omega)
theorem Own.some_cell (h : Own w base e (some ⟨g, 0, none⟩) c l) {j : Nat} (hj : j < c * Flat.sz α) : (w.cell? ⟨g, j, none⟩).isSome = true := by
  rcases h.2 with ⟨h1, _⟩ | ⟨g', cap, cur, hv, hg, hh, h1, h2, h3, h4⟩
  · injection h1 with h1; cases h1
  · injection hv with h5 _ h6; injection h5 with h5; injection h5 with h5; subst h5 h6
    rw [cell_of_row w g j cur e (0, 0) hh, Array.getElem?_eq_getElem (by omega)]
    rfl

theorem run_clear_own {P : Program} (h : Own w base e (some ⟨g, 0, none⟩) c l) (k : Nat) (hk : k ≤ l.length) (t ty : TypeId) (ht : P.underlying t = some (.slice e)) (z : Value) (hv : ∀ w, (zeroValue e).run P w = .ok z w) (hzs : z.cells.size = Flat.sz α)
    (hz1 : z.cells.toList.all (·.oneCell') = true) (X : Option Addr) (n c' : Nat) (hroom : k + n ≤ c) (hX : 0 < n → X = some ⟨g, k * Flat.sz α, none⟩) :
    ∃ w', (Builtin.clear_ #[t] ty #[.slice X n c']).run P w = .ok (.tuple #[]) w' ∧ Own w' base e (some ⟨g, 0, none⟩) c (l.take k) ∧ w.grownBy w' (some g) := by
  rcases Nat.lt_or_ge 0 n with hlt | hge
  · rw [hX hlt]
    obtain ⟨m, hm⟩ : ∃ m, n = m + 1 := ⟨n - 1, by omega⟩
    have hlen : (Builtin.zeroCells z.cells n).toList.length = n * Flat.sz α := by simp [Builtin.zeroCells, hzs]
    have hle : k * Flat.sz α + n * Flat.sz α ≤ c * Flat.sz α := by rw [← Nat.add_mul]; exact Nat.mul_le_mul_right _ (by omega)
    have hst := run_storeCells_cells (P := P) g (k * Flat.sz α) (Builtin.zeroCells z.cells n).toList 0 w
      (fun j hj => by rw [hlen] at hj; exact h.some_cell (by omega)) (fun j _ => h.frozen rfl _) (fun v hv' => by
        simp only [Builtin.zeroCells, Array.toList_map, List.mem_map] at hv'
        obtain ⟨i, hi, rfl⟩ := hv'
        have hpos : 0 < z.cells.size := by
          rcases Nat.eq_zero_or_pos z.cells.size with h0 | h0
          · simp [h0] at hi
          · exact h0
        rw [getElem!_pos z.cells _ (Nat.mod_lt _ hpos)]
        exact List.all_eq_true.1 hz1 _ (by simp))
    simp only [Nat.add_zero] at hst
    refine ⟨w.setCells g (k * Flat.sz α) (Builtin.zeroCells z.cells n).toList, ?_, Own.setCells_tail _ (k * Flat.sz α) w (h.take_ k hk) (by rw [List.length_take, Nat.min_eq_left hk]; exact Nat.le_refl _), grownBy_setCells g _ _ _⟩
    · subst hm
      simp [Builtin.clear_, run_underlying ht, hv, hst]
  · have h0 : n = 0 := by omega
    subst h0
    refine ⟨w, ?_, h.take_ k hk, World.grownBy.refl w _⟩
    cases X <;> simp [Builtin.clear_, run_underlying ht]

theorem wpList_clear_own {P : Program} {ops : Array Oper} {rest : List Oper} {o : Oper} {a : Act} {Q : Exit → Act → World → Prop} (hgd : o.guard = none) (x : Operand) (t : TypeId)
    (ho : o.op = .call { callee := .builtin .clear, args := #[x], argTypes := #[t] }) (ht : P.underlying t = some (.slice e)) (z : Value) (hv : ∀ w, (zeroValue e).run P w = .ok z w) (hzs : z.cells.size = Flat.sz α)
    (hz1 : z.cells.toList.all (·.oneCell') = true) (h : Own w base e (some ⟨g, 0, none⟩) c l) (k : Nat) (hk : k ≤ l.length) {X : Option Addr} {n c' : Nat} (hx : a.eval x = .slice X n c') (hroom : k + n ≤ c) (hX : 0 < n → X = some ⟨g, k * Flat.sz α, none⟩)
    (hK : ∀ w', Own w' base e (some ⟨g, 0, none⟩) c (l.take k) → w.grownBy w' (some g) → wpList P ops Q rest (a.put o.dst (.tuple #[])) w') : wpList P ops Q (o :: rest) a w := by
  refine wpList_plain hgd fun K hK' => ?_
  obtain ⟨w', hrun, h2, h3⟩ := run_clear_own (P := P) h k hk t o.type ht z hv hzs hz1 X n c' hroom hX
  unfold Oper.wp execOp
  simp only [ho, resolve, invoke, builtin, Sem.run_bind, Sem.run_pure, Result.andThen_ok, List.map_toArray, List.map_cons, List.map_nil, hx, hrun]
  exact hK' _ _ (hK w' h2 h3)

theorem step_app_fits {P : Program} {ops : Array Oper} {o : Oper} {a : Act} {K : Act → World → Prop} {Q : Exit → Act → World → Prop} {E : Prop} (hgd : o.guard = none) (s x : Operand) (t : TypeId)
    (ho : o.op = .call { callee := .builtin .append, args := #[s, x], argTypes := #[t, t] }) (i : TypeInfo) (ht : P.underlying t = some (.slice e)) (hi : P.info? e = some i) (hsize : i.size = Flat.sz α) (hone : ∀ x : α, ∀ u ∈ Flat.cells x, u.oneCell' = true)
    {n : Nat} (hs : a.eval s = .slice (some ⟨g, 0, none⟩) n c) (hn : l.length = n) (hown : Own w base e (some ⟨g, 0, none⟩) c l) {ad : Addr} {m d : Nat} {r : List α} (hx : a.eval x = .slice (some ad) m d) (hm : r.length = m)
    (hc : ∀ j u, (flat r)[j]? = some u → w.cell? (ad.add j) = some u) {nm : Nat} (hnm : n + m = nm) (hroom : nm ≤ c)
    (h : ∀ w', Own w' base e (some ⟨g, 0, none⟩) c (l ++ r) → w.grownBy w' (some g) → K (a.put o.dst (.slice (some ⟨g, 0, none⟩) nm c)) w') :
    if Region.wanted o (yielded ops a.tmps) = true then Oper.wp P o a w K Q else E := by
  have hw : Region.wanted o (yielded ops a.tmps) = true := by simp [Region.wanted, hgd]
  rw [if_pos hw]
  subst hn hm hnm
  obtain ⟨w', hrun, h2, h3⟩ := run_append_fits (P := P) w base t o.type e i (Flat.sz α) ht hi hsize g l.length c (flat l) hown ad r.length d (flat r) (flat_length r) hc (fun u hu => by
    unfold flat at hu
    obtain ⟨y, -, hy⟩ := List.mem_flatMap.1 hu
    exact hone y u hy) hroom
  unfold Oper.wp execOp
  simp only [ho, resolve, invoke, builtin, Sem.run_bind, Sem.run_pure, Result.andThen_ok, List.map_toArray, List.map_cons, List.map_nil, hs, hx, hrun]
  refine h w' ?_ h3
  unfold Own
  rw [List.length_append, flat_append]
  exact h2
end

/-- a predicate that lays only blocks of its own, asked while one row is written -/
def PredQ (P : Program) (g : Nat) (lb : Array Value) {α : Type} [Flat α] (v : α → Value) (p : α → Bool) (l : List α) (row : Option Nat) (w : World) : Prop :=
  ∀ (W : World) (x : α), x ∈ l → Flat.ok x → w.grownBy W row → Calls P g (#[v x] ++ lb) W fun e W' => e = .returned (.bool (p x)) ∧ Below W.heap.size W W'

end Go.Proofs.Ytljdnadejmkaeaa

/- append as a step of a region that draws; a list cut at its head. No program is named here. -/
namespace Go.Proofs.Ytljdnadejmkaeaa
open Go.RowKit

theorem At.drop_ {α : Type} [Enc α] {w : World} {B b o : Nat} {l : List α} (h : At w B (some ⟨b, o, none⟩) l) (k : Nat) : At w B (some ⟨b, o + k * Enc.sz α, none⟩) (l.drop k) := by
  intro i x hx
  rw [List.getElem?_drop] at hx
  obtain ⟨b', o', cs, hA, hb, hc, hr⟩ := h (k + i) x hx
  injection hA with hA; injection hA with h1 h2; subst h1 h2
  refine ⟨b, _, cs, rfl, hb, ?_, hr⟩
  rw [Nat.add_assoc, ← Nat.add_mul]; exact hc
theorem At.cut_ {α : Type} [Enc α] {w : World} {B b o c k : Nat} {l : List α} {A : Option Addr} (h : At w B (some ⟨b, o, none⟩) l) (hl : l.length ≤ c) (hA : (if c = k then some (⟨b, o, none⟩ : Addr) else some ⟨b, o + k * Enc.sz α, none⟩) = A) : At w B A (l.drop k) := by
  subst hA
  split
  · have : l.drop k = [] := List.drop_eq_nil_of_le (by omega)
    rw [this]; exact At.nil_
  · exact h.drop_ k

theorem step_app {α : Type} [Flat α] {P : Program} {w : World} {ops : Array Oper} {o : Oper} {a : Act} {K : Act → World → Prop} {Q : Exit → Act → World → Prop} {E : Prop} (hgd : o.guard = none) (s x : Operand) (t : TypeId)
    (ho : o.op = .call { callee := .builtin .append, args := #[s, x], argTypes := #[t, t] })
    (base : Nat) (e : TypeId) (i : TypeInfo) (z : Value) (bytes : Nat) (ht : P.underlying t = some (.slice e)) (hi : P.info? e = some i) (hz : i.zero = some z)
    (hsize : i.size = Flat.sz α) (hby : i.bytes = bytes) (hzs : z.cells.size = Flat.sz α) (hsz : 0 < Flat.sz α) (hone : ∀ x : α, ∀ u ∈ Flat.cells x, u.oneCell' = true)
    {A : Option Addr} {n c : Nat} {l : List α} (hs : a.eval s = .slice A n c) (hn : l.length = n) (hown : Own w base e A c l) {B : Nat} {X : Option Addr} {m d : Nat} {r : List α} (hx : a.eval x = .slice X m d) (hr : At w B X r) (hm : r.length = m) {nm : Nat} (hnm : n + m = nm)
    (hbytes : nm * bytes ≤ 140737488355328) (h63 : nm ≤ maxLen) (hbase : base ≤ w.heap.size)
    (h : ∀ A' c' w', Own w' base e A' c' (l ++ r) → w.grownBy w' (rowOf A) → (rowOf A' = rowOf A ∨ rowOf A' = some w.heap.size) → K (a.put o.dst (.slice A' nm c')) w') :
    if Region.wanted o (yielded ops a.tmps) = true then Oper.wp P o a w K Q else E := by
  have hw : Region.wanted o (yielded ops a.tmps) = true := by simp [Region.wanted, hgd]
  rw [if_pos hw]
  subst hn hnm
  obtain ⟨A', c', w', hrun, h2, h3, h4⟩ := run_app (α := α) (P := P) w base t o.type e i z bytes ht hi hz hsize hby hzs hsz hone hown hr hm hbytes h63 hbase
  unfold Oper.wp execOp
  simp only [ho, resolve, invoke, builtin, Sem.run_bind, Sem.run_pure, Result.andThen_ok, List.map_toArray, List.map_cons, List.map_nil, hs, hx]
  rw [hrun]
  exact h A' c' w' h2 h3 h4

end Go.Proofs.Ytljdnadejmkaeaa

/- Whether numbers are those of values (valuesIn): its contract, for every list of ints. -/
namespace Go.Proofs.Ytljdnadejmkaeaa
open Go.RowKit

theorem all_snoc {α : Type} (p : α → Bool) (l : List α) (k : Nat) (x : α) (h : l[k]? = some x) : (l.take (k + 1)).all p = ((l.take k).all p && p x) := by
  rw [List.take_add_one, h]; simp [List.all_append]
theorem all_stop {α : Type} (p : α → Bool) (l : List α) (k : Nat) (x : α) (h : l[k]? = some x) (hp : p x = false) : l.all p = false := by
  rw [List.all_eq_false]; exact ⟨x, List.mem_of_getElem? h, by simp [hp]⟩
theorem At.int_ {w : World} {B : Nat} {A : Option Addr} {l : List Int} {k : Nat} (h : At w B A l) (hk : k < l.length) :
    ∃ b o x, A = some ⟨b, o, none⟩ ∧ b < B ∧ l[k]? = some x ∧ I64 x ∧ w.cell? ⟨b, o + k, none⟩ = some (.int .i64 x) := by
  obtain ⟨x, hx⟩ : ∃ x, l[k]? = some x := ⟨l[k], List.getElem?_eq_getElem hk⟩
  obtain ⟨b, o, cs, rfl, hb, hc, rfl, hok⟩ := h k x hx
  have h0 := hc 0 _ rfl
  simp only [Flat.sz, Enc.sz, Nat.mul_one, Nat.add_zero] at h0
  exact ⟨b, o, x, rfl, hb, hx, hok, h0⟩

theorem ret_bool {a b : Bool} (h : a = b) : Ending.returned (.bool a) = .returned (.bool b) := by rw [h]

set_option maxHeartbeats 400000 in
theorem valuesIn_any (A : Option Addr) (c B : Nat) (l : List Int) (many : Int) (w : World) (h : At w B A l) (hl : l.length ≤ 9223372036854775807) :
    Calls Try.prog 15 #[.slice A l.length c, .int .i64 many] w fun e w' => e = .returned (.bool (l.all fun v => decide (0 ≤ v) && decide (v < many))) ∧ w = w' := by
  have H := Lib.hid h; clear h
  go_enter Try.func15, Try.ntmps15
  go_wp2
  go_loop [9] (fun i => ∃ k : Nat, k ≤ l.length ∧ i = .int .i64 k ∧ Hid ((l.take k).all (fun v => decide (0 ≤ v) && decide (v < many)) = true)) (fun i => l.length - (intOf i).toNat)
  case atStart => exact ⟨0, Nat.zero_le _, rfl, by simp [Hid]⟩
  case round =>
    obtain ⟨k, hk, rfl, hall⟩ := hrel
    by_cases hlt : k < l.length
    · obtain ⟨b, o, x, rfl, hb, hx, hok, h0⟩ := H.out.int_ hlt
      have HX := Lib.hid hx; clear hx hok
      go_wp2
      · go_ret
        exact ⟨ret_bool (by rw [all_stop _ l k x HX.out]; simp; omega), rfl⟩
      · go_round
        case rel => exact ⟨k + 1, by omega, by go_num, by unfold Hid; rw [all_snoc _ l k x HX.out, hall.out]; simp; omega⟩
        case measure => simp [intOf]; omega
      · go_ret
        exact ⟨ret_bool (by rw [all_stop _ l k x HX.out]; simp; omega), rfl⟩
    · go_wp2
      go_ret
      exact ⟨ret_bool (by have := hall.out; rw [List.take_of_length_le (by omega)] at this; rw [this]), rfl⟩

end Go.Proofs.Ytljdnadejmkaeaa

/- The reference equality of two lists, at five types of two ints: it answers whether the lists are one. -/
namespace Go.Proofs.Ytljdnadejmkaeaa
open Go.RowKit

theorem At.pair {w : World} {B : Nat} {A : Option Addr} {l : List (Int × Int)} {k : Nat} (h : At w B A l) (hk : k < l.length) :
    ∃ b o x y, A = some ⟨b, o, none⟩ ∧ b < B ∧ l[k]? = some (x, y) ∧ I64 x ∧ I64 y ∧ w.cell? ⟨b, o + k * 2, none⟩ = some (.int .i64 x) ∧ w.cell? ⟨b, o + k * 2 + 1, none⟩ = some (.int .i64 y) := by
  obtain ⟨x, hx⟩ : ∃ x, l[k]? = some x := ⟨l[k], List.getElem?_eq_getElem hk⟩
  obtain ⟨b, o, cs, rfl, hb, hc, rfl, hok⟩ := h k x hx
  exact ⟨b, o, x.1, x.2, rfl, hb, hx, hok.1, hok.2, hc 0 _ rfl, hc 1 _ rfl⟩

theorem take_snoc {α : Type} (l : List α) (k : Nat) (x : α) (h : l[k]? = some x) : l.take (k + 1) = l.take k ++ [x] := by
  rw [List.take_add_one, h]; rfl

theorem ne_of_at {α : Type} {l r : List α} {k : Nat} {x y : α} (h : l[k]? = some x) (h' : r[k]? = some y) (hne : x ≠ y) : l ≠ r := by
  rintro rfl; rw [h] at h'; exact hne (Option.some.inj h')

theorem neqVal (x y x' y' : Int) (w : World) : (binOp .neq 23 (.agg #[.int .i64 x, .int .i64 y]) (.agg #[.int .i64 x', .int .i64 y'])).run Try.prog w = .ok (.bool (!decide ((x, y) = (x', y')))) w := by
  have u3 := Try.underlying3
  have a3 := Try.isAgg3
  have z3 := Try.sizeOf3
  have hS : Try.prog.underlying 23 = some (.struct (Try.prog.fieldsOf 23)) := by kernel_rfl
  have hp : Try.prog.stoodInHeld 23 = false := by kernel_rfl
  rw [run_neq_struct, show (10000 : Nat) = 9999 + 1 from rfl, run_equalIn_agg w 9999 23 _ _ hS hp]
  simp only [Program.fieldsOf, Try.underlying23]
  go_simp
  by_cases h1 : x = x' <;> by_cases h2 : y = y' <;> simp [h1, h2]

set_option maxHeartbeats 400000 in
theorem eqVal_any (A A' : Option Addr) (c c' B : Nat) (l r : List (Int × Int)) (w : World) (h : At w B A l) (h' : At w B A' r) (hB : B ≤ w.heap.size) (hl : l.length ≤ 9223372036854775807) (hr : r.length ≤ 9223372036854775807) :
    Calls Try.prog 16 #[.slice A l.length c, .slice A' r.length c'] w fun e w' => e = .returned (.bool (decide (l = r))) ∧ Below w.heap.size w w' := by
  have H := Lib.hid h; clear h
  have H' := Lib.hid h'; clear h'
  by_cases hn : l.length = r.length
  · have hn' : ((l.length : Int) != (r.length : Int)) = false := by simp; omega
    have HN := Lib.hid hn; clear hn
    go_enter Try.func16, Try.ntmps16
    go_wp2
    go_loopw [14] (fun i wr => ∃ k : Nat, k ≤ l.length ∧ i = .int .i64 k ∧ Hid (l.take k = r.take k) ∧ Below w.heap.size w wr) (fun i _ => l.length - (intOf i).toNat)
    case atStart => exact ⟨0, Nat.zero_le _, rfl, by simp [Hid], Below.refl _ _⟩
    case round =>
      obtain ⟨k, hk, rfl, heq, hbl⟩ := hrel
      have hsz := hbl.size
      by_cases hlt : k < l.length
      · obtain ⟨b, o, x, y, rfl, hb, hx, -, -, h0, h1⟩ := (H.out.below (hbl.mono hB)).pair hlt
        obtain ⟨b', o', x', y', rfl, hb', hx', -, -, h0', h1'⟩ := (H'.out.below (hbl.mono hB)).pair (by have := HN.out; omega : k < r.length)
        have HX := Lib.hid hx; clear hx
        have HX' := Lib.hid hx'; clear hx'
        have hbw : b' < wr.heap.size := by omega
        have hk0 : (0 : Int) ≤ (k : Int) := by omega
        have hk1 : (k : Int) < (r.length : Int) := by have := HN.out; omega
        have hbl2 := hbl.alloc hsz (.cells #[.int .i64 x, .int .i64 y] 23)
        by_cases hxy : (x, y) = (x', y')
        · obtain ⟨rfl, rfl⟩ := Prod.mk.injEq .. ▸ hxy
          have hne := fun w => (neqVal x y x y w).trans (by simp : _ = Result.ok (.bool false) w)
          go_wp2
          go_quiet (fail)
          go_wp2
          go_roundw
          case rel => exact ⟨k + 1, by omega, by go_num, by unfold Hid; rw [take_snoc _ _ _ HX.out, take_snoc _ _ _ HX'.out, heq.out], below_drewN hbl2 _⟩
          case measure => simp [intOf]; omega
        · have hne := fun w => (neqVal x y x' y' w).trans (by rw [decide_eq_false hxy]; rfl : _ = Result.ok (.bool true) w)
          have HXY := Lib.hid hxy; clear hxy
          go_wp2
          go_quiet (fail)
          go_wp2
          go_ret
          exact ⟨ret_bool (by simp [ne_of_at HX.out HX'.out HXY.out]), below_drewN hbl2 _⟩
      · go_wp2
        go_ret
        exact ⟨ret_bool (by have h1 := heq.out; have h2 := HN.out; rw [List.take_of_length_le (by omega), List.take_of_length_le (by omega)] at h1; simp [h1]), hbl⟩
  · have hn' : ((l.length : Int) != (r.length : Int)) = true := by simp; omega
    have HN := Lib.hid hn; clear hn
    go_enter Try.func16, Try.ntmps16
    go_wp2
    go_ret
    exact ⟨ret_bool (by have := HN.out; simp; rintro rfl; exact this rfl), Below.refl _ _⟩

theorem neqTry (x y x' y' : Int) (w : World) : (binOp .neq 44 (.agg #[.int .i64 x, .int .i64 y]) (.agg #[.int .i64 x', .int .i64 y'])).run Try.prog w = .ok (.bool (!decide ((x, y) = (x', y')))) w := by
  have u3 := Try.underlying3
  have a3 := Try.isAgg3
  have z3 := Try.sizeOf3
  have hS : Try.prog.underlying 44 = some (.struct (Try.prog.fieldsOf 44)) := by kernel_rfl
  have hp : Try.prog.stoodInHeld 44 = false := by kernel_rfl
  rw [run_neq_struct, show (10000 : Nat) = 9999 + 1 from rfl, run_equalIn_agg w 9999 44 _ _ hS hp]
  simp only [Program.fieldsOf, Try.underlying44]
  go_simp
  by_cases h1 : x = x' <;> by_cases h2 : y = y' <;> simp [h1, h2]

set_option maxHeartbeats 400000 in
theorem eqTry_any (A A' : Option Addr) (c c' B : Nat) (l r : List (Int × Int)) (w : World) (h : At w B A l) (h' : At w B A' r) (hB : B ≤ w.heap.size) (hl : l.length ≤ 9223372036854775807) (hr : r.length ≤ 9223372036854775807) :
    Calls Try.prog 17 #[.slice A l.length c, .slice A' r.length c'] w fun e w' => e = .returned (.bool (decide (l = r))) ∧ Below w.heap.size w w' := by
  have H := Lib.hid h; clear h
  have H' := Lib.hid h'; clear h'
  by_cases hn : l.length = r.length
  · have hn' : ((l.length : Int) != (r.length : Int)) = false := by simp; omega
    have HN := Lib.hid hn; clear hn
    go_enter Try.func17, Try.ntmps17
    go_wp2
    go_loopw [14] (fun i wr => ∃ k : Nat, k ≤ l.length ∧ i = .int .i64 k ∧ Hid (l.take k = r.take k) ∧ Below w.heap.size w wr) (fun i _ => l.length - (intOf i).toNat)
    case atStart => exact ⟨0, Nat.zero_le _, rfl, by simp [Hid], Below.refl _ _⟩
    case round =>
      obtain ⟨k, hk, rfl, heq, hbl⟩ := hrel
      have hsz := hbl.size
      by_cases hlt : k < l.length
      · obtain ⟨b, o, x, y, rfl, hb, hx, -, -, h0, h1⟩ := (H.out.below (hbl.mono hB)).pair hlt
        obtain ⟨b', o', x', y', rfl, hb', hx', -, -, h0', h1'⟩ := (H'.out.below (hbl.mono hB)).pair (by have := HN.out; omega : k < r.length)
        have HX := Lib.hid hx; clear hx
        have HX' := Lib.hid hx'; clear hx'
        have hbw : b' < wr.heap.size := by omega
        have hk0 : (0 : Int) ≤ (k : Int) := by omega
        have hk1 : (k : Int) < (r.length : Int) := by have := HN.out; omega
        have hbl2 := hbl.alloc hsz (.cells #[.int .i64 x, .int .i64 y] 44)
        by_cases hxy : (x, y) = (x', y')
        · obtain ⟨rfl, rfl⟩ := Prod.mk.injEq .. ▸ hxy
          have hne := fun w => (neqTry x y x y w).trans (by simp : _ = Result.ok (.bool false) w)
          go_wp2
          go_quiet (fail)
          go_wp2
          go_roundw
          case rel => exact ⟨k + 1, by omega, by go_num, by unfold Hid; rw [take_snoc _ _ _ HX.out, take_snoc _ _ _ HX'.out, heq.out], below_drewN hbl2 _⟩
          case measure => simp [intOf]; omega
        · have hne := fun w => (neqTry x y x' y' w).trans (by rw [decide_eq_false hxy]; rfl : _ = Result.ok (.bool true) w)
          have HXY := Lib.hid hxy; clear hxy
          go_wp2
          go_quiet (fail)
          go_wp2
          go_ret
          exact ⟨ret_bool (by simp [ne_of_at HX.out HX'.out HXY.out]), below_drewN hbl2 _⟩
      · go_wp2
        go_ret
        exact ⟨ret_bool (by have h1 := heq.out; have h2 := HN.out; rw [List.take_of_length_le (by omega), List.take_of_length_le (by omega)] at h1; simp [h1]), hbl⟩
  · have hn' : ((l.length : Int) != (r.length : Int)) = true := by simp; omega
    have HN := Lib.hid hn; clear hn
    go_enter Try.func17, Try.ntmps17
    go_wp2
    go_ret
    exact ⟨ret_bool (by have := HN.out; simp; rintro rfl; exact this rfl), Below.refl _ _⟩

theorem neqRMove (x y x' y' : Int) (w : World) : (binOp .neq 62 (.agg #[.int .i64 x, .int .i64 y]) (.agg #[.int .i64 x', .int .i64 y'])).run Try.prog w = .ok (.bool (!decide ((x, y) = (x', y')))) w := by
  have u3 := Try.underlying3
  have a3 := Try.isAgg3
  have z3 := Try.sizeOf3
  have hS : Try.prog.underlying 62 = some (.struct (Try.prog.fieldsOf 62)) := by kernel_rfl
  have hp : Try.prog.stoodInHeld 62 = false := by kernel_rfl
  rw [run_neq_struct, show (10000 : Nat) = 9999 + 1 from rfl, run_equalIn_agg w 9999 62 _ _ hS hp]
  simp only [Program.fieldsOf, Try.underlying62]
  go_simp
  by_cases h1 : x = x' <;> by_cases h2 : y = y' <;> simp [h1, h2]

set_option maxHeartbeats 400000 in
theorem eqRMove_any (A A' : Option Addr) (c c' B : Nat) (l r : List (Int × Int)) (w : World) (h : At w B A l) (h' : At w B A' r) (hB : B ≤ w.heap.size) (hl : l.length ≤ 9223372036854775807) (hr : r.length ≤ 9223372036854775807) :
    Calls Try.prog 23 #[.slice A l.length c, .slice A' r.length c'] w fun e w' => e = .returned (.bool (decide (l = r))) ∧ Below w.heap.size w w' := by
  have H := Lib.hid h; clear h
  have H' := Lib.hid h'; clear h'
  by_cases hn : l.length = r.length
  · have hn' : ((l.length : Int) != (r.length : Int)) = false := by simp; omega
    have HN := Lib.hid hn; clear hn
    go_enter Try.func23, Try.ntmps23
    go_wp2
    go_loopw [14] (fun i wr => ∃ k : Nat, k ≤ l.length ∧ i = .int .i64 k ∧ Hid (l.take k = r.take k) ∧ Below w.heap.size w wr) (fun i _ => l.length - (intOf i).toNat)
    case atStart => exact ⟨0, Nat.zero_le _, rfl, by simp [Hid], Below.refl _ _⟩
    case round =>
      obtain ⟨k, hk, rfl, heq, hbl⟩ := hrel
      have hsz := hbl.size
      by_cases hlt : k < l.length
      · obtain ⟨b, o, x, y, rfl, hb, hx, -, -, h0, h1⟩ := (H.out.below (hbl.mono hB)).pair hlt
        obtain ⟨b', o', x', y', rfl, hb', hx', -, -, h0', h1'⟩ := (H'.out.below (hbl.mono hB)).pair (by have := HN.out; omega : k < r.length)
        have HX := Lib.hid hx; clear hx
        have HX' := Lib.hid hx'; clear hx'
        have hbw : b' < wr.heap.size := by omega
        have hk0 : (0 : Int) ≤ (k : Int) := by omega
        have hk1 : (k : Int) < (r.length : Int) := by have := HN.out; omega
        have hbl2 := hbl.alloc hsz (.cells #[.int .i64 x, .int .i64 y] 62)
        by_cases hxy : (x, y) = (x', y')
        · obtain ⟨rfl, rfl⟩ := Prod.mk.injEq .. ▸ hxy
          have hne := fun w => (neqRMove x y x y w).trans (by simp : _ = Result.ok (.bool false) w)
          go_wp2
          go_quiet (fail)
          go_wp2
          go_roundw
          case rel => exact ⟨k + 1, by omega, by go_num, by unfold Hid; rw [take_snoc _ _ _ HX.out, take_snoc _ _ _ HX'.out, heq.out], below_drewN hbl2 _⟩
          case measure => simp [intOf]; omega
        · have hne := fun w => (neqRMove x y x' y' w).trans (by rw [decide_eq_false hxy]; rfl : _ = Result.ok (.bool true) w)
          have HXY := Lib.hid hxy; clear hxy
          go_wp2
          go_quiet (fail)
          go_wp2
          go_ret
          exact ⟨ret_bool (by simp [ne_of_at HX.out HX'.out HXY.out]), below_drewN hbl2 _⟩
      · go_wp2
        go_ret
        exact ⟨ret_bool (by have h1 := heq.out; have h2 := HN.out; rw [List.take_of_length_le (by omega), List.take_of_length_le (by omega)] at h1; simp [h1]), hbl⟩
  · have hn' : ((l.length : Int) != (r.length : Int)) = true := by simp; omega
    have HN := Lib.hid hn; clear hn
    go_enter Try.func23, Try.ntmps23
    go_wp2
    go_ret
    exact ⟨ret_bool (by have := HN.out; simp; rintro rfl; exact this rfl), Below.refl _ _⟩

theorem neqRSpan (x y x' y' : Int) (w : World) : (binOp .neq 78 (.agg #[.int .i64 x, .int .i64 y]) (.agg #[.int .i64 x', .int .i64 y'])).run Try.prog w = .ok (.bool (!decide ((x, y) = (x', y')))) w := by
  have u3 := Try.underlying3
  have a3 := Try.isAgg3
  have z3 := Try.sizeOf3
  have hS : Try.prog.underlying 78 = some (.struct (Try.prog.fieldsOf 78)) := by kernel_rfl
  have hp : Try.prog.stoodInHeld 78 = false := by kernel_rfl
  rw [run_neq_struct, show (10000 : Nat) = 9999 + 1 from rfl, run_equalIn_agg w 9999 78 _ _ hS hp]
  simp only [Program.fieldsOf, Try.underlying78]
  go_simp
  by_cases h1 : x = x' <;> by_cases h2 : y = y' <;> simp [h1, h2]

set_option maxHeartbeats 400000 in
theorem eqRSpan_any (A A' : Option Addr) (c c' B : Nat) (l r : List (Int × Int)) (w : World) (h : At w B A l) (h' : At w B A' r) (hB : B ≤ w.heap.size) (hl : l.length ≤ 9223372036854775807) (hr : r.length ≤ 9223372036854775807) :
    Calls Try.prog 60 #[.slice A l.length c, .slice A' r.length c'] w fun e w' => e = .returned (.bool (decide (l = r))) ∧ Below w.heap.size w w' := by
  have H := Lib.hid h; clear h
  have H' := Lib.hid h'; clear h'
  by_cases hn : l.length = r.length
  · have hn' : ((l.length : Int) != (r.length : Int)) = false := by simp; omega
    have HN := Lib.hid hn; clear hn
    go_enter Try.func60, Try.ntmps60
    go_wp2
    go_loopw [14] (fun i wr => ∃ k : Nat, k ≤ l.length ∧ i = .int .i64 k ∧ Hid (l.take k = r.take k) ∧ Below w.heap.size w wr) (fun i _ => l.length - (intOf i).toNat)
    case atStart => exact ⟨0, Nat.zero_le _, rfl, by simp [Hid], Below.refl _ _⟩
    case round =>
      obtain ⟨k, hk, rfl, heq, hbl⟩ := hrel
      have hsz := hbl.size
      by_cases hlt : k < l.length
      · obtain ⟨b, o, x, y, rfl, hb, hx, -, -, h0, h1⟩ := (H.out.below (hbl.mono hB)).pair hlt
        obtain ⟨b', o', x', y', rfl, hb', hx', -, -, h0', h1'⟩ := (H'.out.below (hbl.mono hB)).pair (by have := HN.out; omega : k < r.length)
        have HX := Lib.hid hx; clear hx
        have HX' := Lib.hid hx'; clear hx'
        have hbw : b' < wr.heap.size := by omega
        have hk0 : (0 : Int) ≤ (k : Int) := by omega
        have hk1 : (k : Int) < (r.length : Int) := by have := HN.out; omega
        have hbl2 := hbl.alloc hsz (.cells #[.int .i64 x, .int .i64 y] 78)
        by_cases hxy : (x, y) = (x', y')
        · obtain ⟨rfl, rfl⟩ := Prod.mk.injEq .. ▸ hxy
          have hne := fun w => (neqRSpan x y x y w).trans (by simp : _ = Result.ok (.bool false) w)
          go_wp2
          go_quiet (fail)
          go_wp2
          go_roundw
          case rel => exact ⟨k + 1, by omega, by go_num, by unfold Hid; rw [take_snoc _ _ _ HX.out, take_snoc _ _ _ HX'.out, heq.out], below_drewN hbl2 _⟩
          case measure => simp [intOf]; omega
        · have hne := fun w => (neqRSpan x y x' y' w).trans (by rw [decide_eq_false hxy]; rfl : _ = Result.ok (.bool true) w)
          have HXY := Lib.hid hxy; clear hxy
          go_wp2
          go_quiet (fail)
          go_wp2
          go_ret
          exact ⟨ret_bool (by simp [ne_of_at HX.out HX'.out HXY.out]), below_drewN hbl2 _⟩
      · go_wp2
        go_ret
        exact ⟨ret_bool (by have h1 := heq.out; have h2 := HN.out; rw [List.take_of_length_le (by omega), List.take_of_length_le (by omega)] at h1; simp [h1]), hbl⟩
  · have hn' : ((l.length : Int) != (r.length : Int)) = true := by simp; omega
    have HN := Lib.hid hn; clear hn
    go_enter Try.func60, Try.ntmps60
    go_wp2
    go_ret
    exact ⟨ret_bool (by have := HN.out; simp; rintro rfl; exact this rfl), Below.refl _ _⟩

theorem neqRPlace (x y x' y' : Int) (w : World) : (binOp .neq 90 (.agg #[.int .i64 x, .int .i64 y]) (.agg #[.int .i64 x', .int .i64 y'])).run Try.prog w = .ok (.bool (!decide ((x, y) = (x', y')))) w := by
  have u3 := Try.underlying3
  have a3 := Try.isAgg3
  have z3 := Try.sizeOf3
  have hS : Try.prog.underlying 90 = some (.struct (Try.prog.fieldsOf 90)) := by kernel_rfl
  have hp : Try.prog.stoodInHeld 90 = false := by kernel_rfl
  rw [run_neq_struct, show (10000 : Nat) = 9999 + 1 from rfl, run_equalIn_agg w 9999 90 _ _ hS hp]
  simp only [Program.fieldsOf, Try.underlying90]
  go_simp
  by_cases h1 : x = x' <;> by_cases h2 : y = y' <;> simp [h1, h2]

set_option maxHeartbeats 400000 in
theorem eqRPlace_any (A A' : Option Addr) (c c' B : Nat) (l r : List (Int × Int)) (w : World) (h : At w B A l) (h' : At w B A' r) (hB : B ≤ w.heap.size) (hl : l.length ≤ 9223372036854775807) (hr : r.length ≤ 9223372036854775807) :
    Calls Try.prog 38 #[.slice A l.length c, .slice A' r.length c'] w fun e w' => e = .returned (.bool (decide (l = r))) ∧ Below w.heap.size w w' := by
  have H := Lib.hid h; clear h
  have H' := Lib.hid h'; clear h'
  by_cases hn : l.length = r.length
  · have hn' : ((l.length : Int) != (r.length : Int)) = false := by simp; omega
    have HN := Lib.hid hn; clear hn
    go_enter Try.func38, Try.ntmps38
    go_wp2
    go_loopw [14] (fun i wr => ∃ k : Nat, k ≤ l.length ∧ i = .int .i64 k ∧ Hid (l.take k = r.take k) ∧ Below w.heap.size w wr) (fun i _ => l.length - (intOf i).toNat)
    case atStart => exact ⟨0, Nat.zero_le _, rfl, by simp [Hid], Below.refl _ _⟩
    case round =>
      obtain ⟨k, hk, rfl, heq, hbl⟩ := hrel
      have hsz := hbl.size
      by_cases hlt : k < l.length
      · obtain ⟨b, o, x, y, rfl, hb, hx, -, -, h0, h1⟩ := (H.out.below (hbl.mono hB)).pair hlt
        obtain ⟨b', o', x', y', rfl, hb', hx', -, -, h0', h1'⟩ := (H'.out.below (hbl.mono hB)).pair (by have := HN.out; omega : k < r.length)
        have HX := Lib.hid hx; clear hx
        have HX' := Lib.hid hx'; clear hx'
        have hbw : b' < wr.heap.size := by omega
        have hk0 : (0 : Int) ≤ (k : Int) := by omega
        have hk1 : (k : Int) < (r.length : Int) := by have := HN.out; omega
        have hbl2 := hbl.alloc hsz (.cells #[.int .i64 x, .int .i64 y] 90)
        by_cases hxy : (x, y) = (x', y')
        · obtain ⟨rfl, rfl⟩ := Prod.mk.injEq .. ▸ hxy
          have hne := fun w => (neqRPlace x y x y w).trans (by simp : _ = Result.ok (.bool false) w)
          go_wp2
          go_quiet (fail)
          go_wp2
          go_roundw
          case rel => exact ⟨k + 1, by omega, by go_num, by unfold Hid; rw [take_snoc _ _ _ HX.out, take_snoc _ _ _ HX'.out, heq.out], below_drewN hbl2 _⟩
          case measure => simp [intOf]; omega
        · have hne := fun w => (neqRPlace x y x' y' w).trans (by rw [decide_eq_false hxy]; rfl : _ = Result.ok (.bool true) w)
          have HXY := Lib.hid hxy; clear hxy
          go_wp2
          go_quiet (fail)
          go_wp2
          go_ret
          exact ⟨ret_bool (by simp [ne_of_at HX.out HX'.out HXY.out]), below_drewN hbl2 _⟩
      · go_wp2
        go_ret
        exact ⟨ret_bool (by have h1 := heq.out; have h2 := HN.out; rw [List.take_of_length_le (by omega), List.take_of_length_le (by omega)] at h1; simp [h1]), hbl⟩
  · have hn' : ((l.length : Int) != (r.length : Int)) = true := by simp; omega
    have HN := Lib.hid hn; clear hn
    go_enter Try.func38, Try.ntmps38
    go_wp2
    go_ret
    exact ⟨ret_bool (by have := HN.out; simp; rintro rfl; exact this rfl), Below.refl _ _⟩

end Go.Proofs.Ytljdnadejmkaeaa

/- Copies of lists (Copy, slices.Clone): a list of their own that holds the same; bounded by the reach of the form. -/
namespace Go.Proofs.Ytljdnadejmkaeaa
open Go.RowKit

theorem pair_one : ∀ x : Int × Int, ∀ u ∈ Flat.cells x, u.oneCell' = true := by
  intro x u hu; simp [Flat.cells] at hu; rcases hu with rfl | rfl <;> rfl
theorem int_one : ∀ x : Int, ∀ u ∈ Flat.cells x, u.oneCell' = true := by
  intro x u hu; simp [Flat.cells] at hu; subst hu; rfl

theorem infoInt : (Try.prog.info? 3).map (fun i => (i.zero, i.size, i.bytes)) = some (some (.int .i64 0), 1, 8) := by kernel_rfl
theorem infoVal : (Try.prog.info? 23).map (fun i => (i.zero, i.size, i.bytes)) = some (some (.agg #[.int .i64 0, .int .i64 0]), 2, 16) := by kernel_rfl
theorem infoTry : (Try.prog.info? 44).map (fun i => (i.zero, i.size, i.bytes)) = some (some (.agg #[.int .i64 0, .int .i64 0]), 2, 16) := by kernel_rfl
theorem infoRMove : (Try.prog.info? 62).map (fun i => (i.zero, i.size, i.bytes)) = some (some (.agg #[.int .i64 0, .int .i64 0]), 2, 16) := by kernel_rfl
theorem infoRSpan : (Try.prog.info? 78).map (fun i => (i.zero, i.size, i.bytes)) = some (some (.agg #[.int .i64 0, .int .i64 0]), 2, 16) := by kernel_rfl
theorem infoRPlace : (Try.prog.info? 90).map (fun i => (i.zero, i.size, i.bytes)) = some (some (.agg #[.int .i64 0, .int .i64 0]), 2, 16) := by kernel_rfl

theorem copyVal_any (A : Option Addr) (c B : Nat) (l : List (Int×Int)) (w : World) (h : At w B A l) (hl : l.length * 16 ≤ 140737488355328) :
    Calls Try.prog 14 #[.slice A l.length c] w (Copied 23 l w) := by
  obtain ⟨i0, hi, hz0, hz1, hz2⟩ := info_parts infoVal
  have H := Lib.hid h; clear h
  go_enter Try.func14, Try.ntmps14
  go_wp2_with (at_builtin; go_must (refine wpList_app (α := Int×Int) (n := 0) rfl (.const (.slice none 0 0)) (.tmp 3) _ rfl w.heap.size 23 i0 _ 16 Try.underlying24 hi hz0 hz1 hz2 rfl (by decide) pair_one (by rfl) rfl Own.nil_ (by rfl) H.out rfl (by omega) (by simp only [maxLen]; omega) (Nat.le_refl _) ?_); intro A1 c1 w1 hown hgr hat)
  go_ret
  exact ⟨A1, c1, by simp, by simpa using hown, (Below.refl _ _).grown hgr (Nat.le_refl _) (by simp [rowOf])⟩

theorem copyRMove_any (A : Option Addr) (c B : Nat) (l : List (Int×Int)) (w : World) (h : At w B A l) (hl : l.length * 16 ≤ 140737488355328) :
    Calls Try.prog 58 #[.slice A l.length c] w (Copied 62 l w) := by
  obtain ⟨i0, hi, hz0, hz1, hz2⟩ := info_parts infoRMove
  have H := Lib.hid h; clear h
  go_enter Try.func58, Try.ntmps58
  go_wp2_with (at_builtin; go_must (refine wpList_app (α := Int×Int) (n := 0) rfl (.const (.slice none 0 0)) (.tmp 3) _ rfl w.heap.size 62 i0 _ 16 Try.underlying56 hi hz0 hz1 hz2 rfl (by decide) pair_one (by rfl) rfl Own.nil_ (by rfl) H.out rfl (by omega) (by simp only [maxLen]; omega) (Nat.le_refl _) ?_); intro A1 c1 w1 hown hgr hat)
  go_ret
  exact ⟨A1, c1, by simp, by simpa using hown, (Below.refl _ _).grown hgr (Nat.le_refl _) (by simp [rowOf])⟩

theorem copyInt_any (A : Option Addr) (c B : Nat) (l : List (Int)) (w : World) (h : At w B A l) (hl : l.length * 8 ≤ 140737488355328) :
    Calls Try.prog 25 #[.slice A l.length c] w (Copied 3 l w) := by
  obtain ⟨i0, hi, hz0, hz1, hz2⟩ := info_parts infoInt
  have H := Lib.hid h; clear h
  go_enter Try.func25, Try.ntmps25
  go_wp2_with (at_builtin; go_must (refine wpList_app (α := Int) (n := 0) rfl (.const (.slice none 0 0)) (.tmp 3) _ rfl w.heap.size 3 i0 _ 8 Try.underlying40 hi hz0 hz1 hz2 rfl (by decide) int_one (by rfl) rfl Own.nil_ (by rfl) H.out rfl (by omega) (by simp only [maxLen]; omega) (Nat.le_refl _) ?_); intro A1 c1 w1 hown hgr hat)
  go_ret
  exact ⟨A1, c1, by simp, by simpa using hown, (Below.refl _ _).grown hgr (Nat.le_refl _) (by simp [rowOf])⟩

theorem cloneVal_any (A : Option Addr) (c B : Nat) (l : List (Int×Int)) (w : World) (h : At w B A l) (hB : B ≤ w.heap.size) (hl : l.length * 16 ≤ 140737488355328) :
    Calls Try.prog 47 #[.slice A l.length c] w (Copied 23 l w) := by
  obtain ⟨i0, hi, hz0, hz1, hz2⟩ := info_parts infoVal
  cases A with
  | none =>
    have hnil : l = [] := by
      rcases l with _ | ⟨x, l⟩
      · rfl
      · obtain ⟨b, o, cs, hA, -⟩ := h 0 x rfl
        cases hA
    subst hnil
    have heq := fun w => run_eql_nil_slice w 24 23 none 0 c 0 0 Try.underlying24
    have heq2 := fun w => Lib.run_eql_slice_nil w 24 23 none 0 c 0 0 Try.underlying24
    go_enter Try.func47, Try.ntmps47
    go_wp2
    go_ret
    exact ⟨none, 0, rfl, Own.nil_, Below.refl _ _⟩
  | some a =>
    have heq2 := fun w => Lib.run_eql_slice_nil w 24 23 (some a) l.length c 0 0 Try.underlying24
    have H := Lib.hid h; clear h
    go_enter Try.func47, Try.ntmps47
    go_wp2_with (at_builtin; go_must (refine wpList_app (α := Int×Int) (n := 0) rfl (.tmp 5) (.tmp 6) _ rfl w.heap.size 23 i0 _ 16 Try.underlying24 hi hz0 hz1 hz2 rfl (by decide) pair_one (by rfl) rfl (own_new0 w _ _ _ rfl (Nat.le_refl _)) (by rfl) ((H.out).keep (fun p hp => World.cell?_alloc_lt w _ p (by omega))) rfl (by omega) (by simp only [maxLen]; omega) (by simp) ?_); intro A1 c1 w1 hown hgr hat)
    go_ret
    exact ⟨A1, c1, by simp, by simpa using hown, ((Below.refl _ _).alloc (Nat.le_refl _) _).grown hgr (by simp) (by simp [rowOf])⟩

theorem cloneTry_any (A : Option Addr) (c B : Nat) (l : List (Int×Int)) (w : World) (h : At w B A l) (hB : B ≤ w.heap.size) (hl : l.length * 16 ≤ 140737488355328) :
    Calls Try.prog 48 #[.slice A l.length c] w (Copied 44 l w) := by
  obtain ⟨i0, hi, hz0, hz1, hz2⟩ := info_parts infoTry
  cases A with
  | none =>
    have hnil : l = [] := by
      rcases l with _ | ⟨x, l⟩
      · rfl
      · obtain ⟨b, o, cs, hA, -⟩ := h 0 x rfl
        cases hA
    subst hnil
    have heq := fun w => run_eql_nil_slice w 25 44 none 0 c 0 0 Try.underlying25
    have heq2 := fun w => Lib.run_eql_slice_nil w 25 44 none 0 c 0 0 Try.underlying25
    go_enter Try.func48, Try.ntmps48
    go_wp2
    go_ret
    exact ⟨none, 0, rfl, Own.nil_, Below.refl _ _⟩
  | some a =>
    have heq2 := fun w => Lib.run_eql_slice_nil w 25 44 (some a) l.length c 0 0 Try.underlying25
    have H := Lib.hid h; clear h
    go_enter Try.func48, Try.ntmps48
    go_wp2_with (at_builtin; go_must (refine wpList_app (α := Int×Int) (n := 0) rfl (.tmp 5) (.tmp 6) _ rfl w.heap.size 44 i0 _ 16 Try.underlying25 hi hz0 hz1 hz2 rfl (by decide) pair_one (by rfl) rfl (own_new0 w _ _ _ rfl (Nat.le_refl _)) (by rfl) ((H.out).keep (fun p hp => World.cell?_alloc_lt w _ p (by omega))) rfl (by omega) (by simp only [maxLen]; omega) (by simp) ?_); intro A1 c1 w1 hown hgr hat)
    go_ret
    exact ⟨A1, c1, by simp, by simpa using hown, ((Below.refl _ _).alloc (Nat.le_refl _) _).grown hgr (by simp) (by simp [rowOf])⟩

theorem cloneRMove_any (A : Option Addr) (c B : Nat) (l : List (Int×Int)) (w : World) (h : At w B A l) (hB : B ≤ w.heap.size) (hl : l.length * 16 ≤ 140737488355328) :
    Calls Try.prog 53 #[.slice A l.length c] w (Copied 62 l w) := by
  obtain ⟨i0, hi, hz0, hz1, hz2⟩ := info_parts infoRMove
  cases A with
  | none =>
    have hnil : l = [] := by
      rcases l with _ | ⟨x, l⟩
      · rfl
      · obtain ⟨b, o, cs, hA, -⟩ := h 0 x rfl
        cases hA
    subst hnil
    have heq := fun w => run_eql_nil_slice w 56 62 none 0 c 0 0 Try.underlying56
    have heq2 := fun w => Lib.run_eql_slice_nil w 56 62 none 0 c 0 0 Try.underlying56
    go_enter Try.func53, Try.ntmps53
    go_wp2
    go_ret
    exact ⟨none, 0, rfl, Own.nil_, Below.refl _ _⟩
  | some a =>
    have heq2 := fun w => Lib.run_eql_slice_nil w 56 62 (some a) l.length c 0 0 Try.underlying56
    have H := Lib.hid h; clear h
    go_enter Try.func53, Try.ntmps53
    go_wp2_with (at_builtin; go_must (refine wpList_app (α := Int×Int) (n := 0) rfl (.tmp 5) (.tmp 6) _ rfl w.heap.size 62 i0 _ 16 Try.underlying56 hi hz0 hz1 hz2 rfl (by decide) pair_one (by rfl) rfl (own_new0 w _ _ _ rfl (Nat.le_refl _)) (by rfl) ((H.out).keep (fun p hp => World.cell?_alloc_lt w _ p (by omega))) rfl (by omega) (by simp only [maxLen]; omega) (by simp) ?_); intro A1 c1 w1 hown hgr hat)
    go_ret
    exact ⟨A1, c1, by simp, by simpa using hown, ((Below.refl _ _).alloc (Nat.le_refl _) _).grown hgr (by simp) (by simp [rowOf])⟩

theorem cloneInt_any (A : Option Addr) (c B : Nat) (l : List (Int)) (w : World) (h : At w B A l) (hB : B ≤ w.heap.size) (hl : l.length * 8 ≤ 140737488355328) :
    Calls Try.prog 59 #[.slice A l.length c] w (Copied 3 l w) := by
  obtain ⟨i0, hi, hz0, hz1, hz2⟩ := info_parts infoInt
  cases A with
  | none =>
    have hnil : l = [] := by
      rcases l with _ | ⟨x, l⟩
      · rfl
      · obtain ⟨b, o, cs, hA, -⟩ := h 0 x rfl
        cases hA
    subst hnil
    have heq := fun w => run_eql_nil_slice w 40 3 none 0 c 0 0 Try.underlying40
    have heq2 := fun w => Lib.run_eql_slice_nil w 40 3 none 0 c 0 0 Try.underlying40
    go_enter Try.func59, Try.ntmps59
    go_wp2
    go_ret
    exact ⟨none, 0, rfl, Own.nil_, Below.refl _ _⟩
  | some a =>
    have heq2 := fun w => Lib.run_eql_slice_nil w 40 3 (some a) l.length c 0 0 Try.underlying40
    have H := Lib.hid h; clear h
    go_enter Try.func59, Try.ntmps59
    go_wp2_with (at_builtin; go_must (refine wpList_app (α := Int) (n := 0) rfl (.tmp 5) (.tmp 6) _ rfl w.heap.size 3 i0 _ 8 Try.underlying40 hi hz0 hz1 hz2 rfl (by decide) int_one (by rfl) rfl (own_new0 w _ _ _ rfl (Nat.le_refl _)) (by rfl) ((H.out).keep (fun p hp => World.cell?_alloc_lt w _ p (by omega))) rfl (by omega) (by simp only [maxLen]; omega) (by simp) ?_); intro A1 c1 w1 hown hgr hat)
    go_ret
    exact ⟨A1, c1, by simp, by simpa using hown, ((Below.refl _ _).alloc (Nat.le_refl _) _).grown hgr (by simp) (by simp [rowOf])⟩

end Go.Proofs.Ytljdnadejmkaeaa

/- order's writer: numbers as bytes. -/
namespace Go.Proofs.Ytljdnadejmkaeaa
open Go.RowKit

theorem infoU8 : (Try.prog.info? 5).map (fun i => (i.zero, i.size, i.bytes)) = some (some (.int .u8 0), 1, 1) := by kernel_rfl
/-- a writer at block R: its bytes -/
def Bw (w : World) (base R : Nat) (out : List U8) : Prop :=
  ∃ (A : Option Addr) (c : Nat), Blk w R 149 #[.slice A out.length c] ∧ Own w base 5 A c out ∧ base ≤ R
theorem Bw.lt {w : World} {base R : Nat} {out : List U8} (h : Bw w base R out) : base ≤ R ∧ R < w.heap.size := by
  obtain ⟨A, c, h1, -, h3⟩ := h
  exact ⟨h3, h1.lt⟩
theorem Bw.alloc {w : World} {base R : Nat} {out : List U8} (h : Bw w base R out) (o : Obj) : Bw (w.alloc o) base R out := by
  obtain ⟨A, c, h1, h2, h3⟩ := h
  exact ⟨A, c, h1.alloc o, h2.alloc o, h3⟩
theorem Bw.fresh {w w' : World} {base R : Nat} {out : List U8} (h : Bw w base R out) (hb : Below w.heap.size w w') : Bw w' base R out := by
  obtain ⟨A, c, h1, h2, h3⟩ := h
  exact ⟨A, c, h1.fresh hb, h2.fresh hb, h3⟩

/-- all blocks that are known whole stay, but the writer's own and rows of bytes -/
def BKeep (R : Nat) (w w' : World) : Prop := ∀ g t cs, g ≠ R → t ≠ 5 → Blk w g t cs → Blk w' g t cs
theorem BKeep.refl (R : Nat) (w : World) : BKeep R w w := fun _ _ _ _ _ h => h
theorem BKeep.trans {R : Nat} {a b c : World} (h : BKeep R a b) (h' : BKeep R b c) : BKeep R a c := fun g t cs h1 h2 h3 => h' g t cs h1 h2 (h g t cs h1 h2 h3)
theorem BKeep.alloc {R : Nat} {a b : World} (h : BKeep R a b) (o : Obj) : BKeep R a (b.alloc o) := fun g t cs h1 h2 h3 => (h g t cs h1 h2 h3).alloc o
theorem BKeep.set {R i : Nat} {a b : World} (h : BKeep R a b) (u : Value) : BKeep R a (b.setCell ⟨R, i, none⟩ u) := fun g t cs h1 h2 h3 => (h g t cs h1 h2 h3).far h1 u
theorem BKeep.fresh {R : Nat} {a b c : World} (h : BKeep R a b) (hb : Below b.heap.size b c) : BKeep R a c := fun g t cs h1 h2 h3 => (h g t cs h1 h2 h3).fresh hb
theorem BKeep.grown {R : Nat} {a b c : World} (h : BKeep R a b) {A : Option Addr} {base d : Nat} {l : List U8} (ho : Own b base 5 A d l) (hg : b.grownBy c (rowOf A)) : BKeep R a c := fun g t cs h1 h2 h3 => by
  have h4 := h g t cs h1 h2 h3
  exact h4.grown hg (fun e => own_ne_ty ho h4 (Ne.symm h2) e)


namespace Ord
theorem or128 : ∀ a : Fin 256, a.val ||| 128 = a.val % 128 + 128 := by decide +kernel
theorem hi_byte (u : Nat) : bits .or .u8 ((u : Int) % 256) 128 = ((u % 128 + 128 : Nat) : Int) := by
  have h := u8_or_nat (u % 256) 128 (by omega) (by omega)
  rw [show (((u % 256 : Nat) : Int)) = (u : Int) % 256 by omega] at h
  have h2 := or128 ⟨u % 256, by omega⟩
  simp only at h2
  rw [show ((128 : Nat) : Int) = 128 from rfl] at h
  rw [h, h2, show u % 256 % 128 = u % 128 by omega]
theorem xor_ones (a : Nat) (h : a < 18446744073709551616) : a ^^^ 18446744073709551615 = 18446744073709551615 - a := by
  have h1 := congrArg BitVec.toNat (BitVec.xor_allOnes (x := BitVec.ofNat 64 a))
  rw [BitVec.toNat_xor, BitVec.toNat_not, BitVec.toNat_ofNat, BitVec.toNat_allOnes, Nat.mod_eq_of_lt (by simpa using h)] at h1
  simpa using h1
theorem zig_xor (x : Int) (hx : I64 x) : bits .xor .u64 (IntKind.u64.wrap (x % 18446744073709551616 * 2)) (IntKind.u64.wrap (x / 9223372036854775808)) = (zig x : Int) := by
  unfold I64 at hx
  rw [IntKind.wrap_u64, IntKind.wrap_u64]
  unfold zig
  by_cases h : 0 ≤ x
  · rw [if_pos h, show x / 9223372036854775808 = 0 by omega, show x % 18446744073709551616 * 2 % 18446744073709551616 = ((x.toNat * 2 : Nat) : Int) by omega]
    have := bits_xor_u64_nat (x.toNat * 2) 0 (by omega) (by omega)
    rw [Nat.xor_zero] at this
    exact this
  · rw [if_neg h, show x / 9223372036854775808 % 18446744073709551616 = ((18446744073709551615 : Nat) : Int) by omega, show x % 18446744073709551616 * 2 % 18446744073709551616 = ((18446744073709551615 - ((-(x + 1)).toNat * 2 + 1) : Nat) : Int) by omega]
    rw [bits_xor_u64_nat _ _ (by omega) (by omega), xor_ones _ (by omega)]
    congr 1
    omega
end Ord

set_option maxHeartbeats 1600000 in
set_option maxRecDepth 100000 in
/-- numbers of a list that was just laid -/
theorem nums_new (R base gl n : Nat) (cs : Array Value) (l : List Int) (out : List U8) (w : World) (hgl : gl = w.heap.size) (hcs : cs.toList = flat l) (hn : l.length = n) (hok : ∀ x ∈ l, I64 x) (h : Bw w base R out) (hlen : out.length + n * 10 ≤ 1000000000000) :
    Calls Try.prog 88 #[.pointer (some ⟨R, 0, none⟩), .slice (some ⟨gl, 0, none⟩) n n] (w.alloc (.cells cs 3)) fun en w' => en = .returned (.tuple #[]) ∧ Bw w' base R (out ++ Ord.bys (Ord.numsB l)) ∧ Below base w w' ∧ BKeep R w w' := by
  obtain ⟨i0, hi, hz0, hz1, hz2⟩ := info_parts infoU8
  subst hgl hn
  have hat := At.built w cs 3 l hcs hok
  obtain ⟨A, c, h1, h2, h3⟩ := h
  have hRl := h1.lt
  have hb0 : Below base w (w.alloc (.cells cs 3)) := (Below.refl _ _).alloc (by omega) _
  have H := Lib.hid (And.intro hat (And.intro (h1.alloc (.cells cs 3)) (And.intro (h2.alloc (.cells cs 3)) (And.intro hb0 (And.intro (fun g (hg : rowOf A = some g) => (h2.lt g hg).2) ((BKeep.refl R w).alloc (.cells cs 3))))))); clear hat h1 h2 hb0 hcs hok
  obtain ⟨W, hW⟩ : ∃ W, w.alloc (.cells cs 3) = W := ⟨_, rfl⟩
  have hWs : W.heap.size = w.heap.size + 1 := by rw [← hW]; simp
  rw [hW] at H ⊢
  clear hW
  obtain ⟨gl, hgl⟩ : ∃ gl, gl = w.heap.size := ⟨_, rfl⟩
  rw [← hgl] at H hWs hRl ⊢
  clear hgl
  go_enter Try.func88, Try.ntmps88
  go_wp2
  go_loopg [9] (l.length) (fun gk iv wr => ∃ (k : Nat) (A1 : Option Addr) (c1 : Nat) (o1 : List U8), k ≤ l.length ∧ gk = l.length - k ∧ iv = .int .i64 k ∧ o1.length ≤ out.length + k * 10 ∧ Hid (o1 = out ++ Ord.bys (Ord.numsB (l.take k)) ∧ Blk wr R 149 #[.slice A1 o1.length c1] ∧ Own wr base 5 A1 c1 o1 ∧ At wr (gl + 1) (some ⟨gl, 0, none⟩) l ∧ rowOf A1 ≠ some gl ∧ BKeep R w wr) ∧ Below base w wr ∧ gl < wr.heap.size)
  case atStart => exact ⟨0, A, c, out, Nat.zero_le _, rfl, rfl, by omega, ⟨by simp [Ord.numsB, Ord.bys], H.out.2.1, H.out.2.2.1, H.out.1, fun e => (by have := H.out.2.2.2.2.1 gl e; omega), H.out.2.2.2.2.2⟩, H.out.2.2.2.1, by omega⟩
  case round =>
    obtain ⟨k, A1, c1, o1, hk, rfl, rfl, ho1, hkeep, hbl, hgs⟩ := hrel
    have hsz := hbl.size
    obtain ⟨k1, k2, k3, k4, k5, k6⟩ := hkeep.out
    by_cases hlt : k < l.length
    · obtain ⟨b, o, x, hA, hb, hx, hok, h0⟩ := k4.int_ hlt
      injection hA with hA; injection hA with e1 e2; subst e1 e2
      rw [Nat.zero_add] at h0
      have hRl2 := k2.lt
      have hcv : IntKind.u64.wrap x = x % 18446744073709551616 := IntKind.wrap_u64 x
      obtain ⟨u0, hu0⟩ : ∃ u0, Ord.zig x = u0 := ⟨_, rfl⟩
      have hzg := Ord.zig_xor x hok
      have hu64 := Ord.zig_lt hok
      have hv10 := Ord.vb_len10 hu64
      rw [hu0] at hzg hu64 hv10
      have hns := Ord.numsB_take (l := l) hx
      have hnb : Ord.numB x = Ord.vb u0 := by unfold Ord.numB; rw [hu0]
      rw [hnb] at hns
      have HK := Lib.hid (And.intro k1 (And.intro k2 (And.intro k3 (And.intro k4 (And.intro k5 (And.intro hns k6)))))); clear k1 k2 k3 k4 k5 k6 hns hok hx hkeep hnb hu0
      obtain ⟨wo, hwo⟩ : ∃ wo : World, wo = wr := ⟨_, rfl⟩
      rw [← hwo] at HK hbl hgs hsz hRl2 h0 ⊢
      clear hwo
      go_wp2_with fail
      go_loopg [6] ((Ord.vb u0).length) (fun gj uv wj => ∃ (u : Nat) (d : List Nat) (A2 : Option Addr) (c2 : Nat) (o2 : List U8), u < 18446744073709551616 ∧ gj = (Ord.vb u).length ∧ uv = .int .u64 (u : Int) ∧ o2.length + (Ord.vb u).length ≤ o1.length + 10 ∧ Hid (o2 = o1 ++ Ord.bys d ∧ d ++ Ord.vb u = Ord.vb u0 ∧ Blk wj R 149 #[.slice A2 o2.length c2] ∧ Own wj base 5 A2 c2 o2 ∧ At wj (gl + 1) (some ⟨gl, 0, none⟩) l ∧ rowOf A2 ≠ some gl ∧ BKeep R w wj) ∧ Below base w wj ∧ gl < wj.heap.size)
      case atStart => exact ⟨u0, [], A1, c1, o1, hu64, rfl, by rw [← hzg], by omega, ⟨by simp [Ord.bys], rfl, HK.out.2.1, HK.out.2.2.1, HK.out.2.2.2.1, HK.out.2.2.2.2.1, HK.out.2.2.2.2.2.2⟩, hbl, hgs⟩
      case round =>
        obtain ⟨u, d, A2, c2, o2, hu, rfl, rfl, ho2, hkeep2, hbl2, hgs2⟩ := hrel
        have hsz2 := hbl2.size
        clear hzg hu64 h0
        obtain ⟨q1, q2, q3, q4, q5, q6, q7⟩ := hkeep2.out
        have r0 := q3.cell 0 (v := .slice A2 o2.length c2) rfl
        have hRl3 := q3.lt
        have hw8 : IntKind.u8.wrap (u : Int) = (u : Int) % 256 := IntKind.wrap_u8 _
        by_cases h128 : u < 128
        · have hlt8 : ¬ (128 : Int) ≤ (u : Int) := by omega
          have hm : (u : Int) % 256 = (u : Int) := by omega
          rw [hm] at hw8
          have hvb : Ord.vb u = [u] := Ord.vb_lt h128
          rw [hvb] at q2 ho2
          have HQ := Lib.hid (And.intro q1 (And.intro q2 (And.intro (q3.alloc (.cells #[.int .u8 (u : Int)] 5)) (And.intro q4 (And.intro q5 (And.intro q6 q7)))))); clear q1 q2 q3 q4 q5 q6 q7 hkeep2 hm hvb
          simp only [List.length_singleton] at ho2
          go_wp2_with (at_builtin; go_must (refine wpList_app (α := U8) (m := 1) (B := wr.heap.size + 1) (r := [⟨(u : Int)⟩]) rfl (.tmp 40) (.tmp 43) _ rfl base 5 i0 _ 1 Try.underlying105 hi hz0 hz1 hz2 rfl (by decide) u8_one (by rfl) rfl (HQ.out.2.2.2.1.alloc _) (by rfl) ?_ rfl (by omega) (by simp only [maxLen]; omega) (by simp; omega) ?_))
          · exact At.built wr _ _ [(⟨(u : Int)⟩ : U8)] rfl (by intro z hz; simp at hz; subst hz; show (0 : Int) ≤ (u : Int) ∧ (u : Int) ≤ 255; omega)
          intro A3 c3 w3 hown3 hgr3 hat3
          have hs3 := hgr3.size
          simp only [World.size_alloc] at hs3
          obtain ⟨m1, m2, m3, m4, m5, m6, m7⟩ := HQ.out
          have m9 := (m7.alloc (.cells #[.int .u8 (u : Int)] 5)).grown (m4.alloc _) hgr3
          have r1 := m3.grown hgr3 (fun e => own_ne_ty (m4.alloc (.cells #[.int .u8 (u : Int)] 5)) m3 (by decide) e)
          have r2 := (m5.alloc (by omega) (.cells #[.int .u8 (u : Int)] 5)).grown_ (by simp; omega) hgr3 (fun h hg e => by injection hg with hg; subst hg; exact m6 e)
          have hA3 : rowOf A3 ≠ some gl := by
            intro e
            rcases hat3 with h | h
            · exact m6 (by rw [← h]; exact e)
            · rw [h] at e; injection e with e; omega
          have hbl3 : Below base w w3 := (hbl2.alloc (by omega) _).grown hgr3 (by simp; omega) (fun g hg => (m4.lt g hg).1)
          have r3 := r1.cell 0 (v := .slice A2 o2.length c2) rfl
          have z3 := r1.frozen 0
          have hl2 : (o2 ++ [(⟨(u : Int)⟩ : U8)]).length ≤ out.length + (k + 1) * 10 := by rw [List.length_append, List.length_singleton]; omega
          have hl3 : o2.length + 1 = (o2 ++ [(⟨(u : Int)⟩ : U8)]).length := by rw [List.length_append]; rfl
          have heq : o2 ++ [(⟨(u : Int)⟩ : U8)] = out ++ Ord.bys (Ord.numsB (l.take (k + 1))) := by
            rw [HK.out.2.2.2.2.2.1, ← m2, m1, HK.out.1, Ord.bys_append, Ord.bys_append]; simp [Ord.bys]
          have HF := Lib.hid (And.intro r1 (And.intro hown3 (And.intro r2 (And.intro hA3 (And.intro heq (And.intro hl2 (And.intro hl3 m9))))))); clear r1 hown3 r2 hA3 heq hl2 hl3 m1 m2 m3 m4 m5 m6 m7 m9 hgr3 hat3
          go_wp2
          go_roundg (l.length - (k + 1))
          case measure => omega
          case rel =>
            obtain ⟨f1, f2, f3, f4, f5, f6, f7, f8⟩ := HF.out
            refine ⟨k + 1, A3, c3, o2 ++ [(⟨(u : Int)⟩ : U8)], by omega, rfl, by go_num, f6, ⟨f5, ?_, f2.setCell _ _ (own_ne_ty f2 f1 (by decide)), f3.far_ (fun e => by injection e with e; simp at e; omega) _, f4, f8.set _⟩, hbl3.setCell h3 _, by simp [World.setCell]; omega⟩
            have := f1.set_ 0 (.slice A3 (o2.length + 1) c3)
            rw [← f7]
            simpa using this
        · have hge8 : (128 : Int) ≤ (u : Int) := by omega
          have hor := Ord.hi_byte u
          obtain ⟨y, hy⟩ : ∃ y, u % 128 + 128 = y := ⟨_, rfl⟩
          rw [hy] at hor
          have hvb : Ord.vb u = y :: Ord.vb (u / 128) := by rw [Ord.vb_ge h128, hy]
          rw [hvb, List.length_cons] at ho2
          rw [hvb] at q2
          have hyb : y < 256 := by omega
          have hml : (Ord.vb (u / 128)).length < (Ord.vb u).length := by rw [hvb]; simp
          have HQ := Lib.hid (And.intro q1 (And.intro q2 (And.intro (q3.alloc (.cells #[.int .u8 (y : Int)] 5)) (And.intro q4 (And.intro q5 (And.intro q6 q7)))))); clear q1 q2 q3 q4 q5 q6 q7 hkeep2 hvb hy
          have hpos := Ord.vb_pos (u / 128)
          go_wp2_with (at_builtin; go_must (refine wpList_app (α := U8) (m := 1) (B := wr.heap.size + 1) (r := [⟨(y : Int)⟩]) rfl (.tmp 26) (.tmp 30) _ rfl base 5 i0 _ 1 Try.underlying105 hi hz0 hz1 hz2 rfl (by decide) u8_one (by rfl) rfl (HQ.out.2.2.2.1.alloc _) (by rfl) ?_ rfl (by omega) (by simp only [maxLen]; omega) (by simp; omega) ?_))
          · exact At.built wr _ _ [(⟨(y : Int)⟩ : U8)] rfl (by intro z hz; simp at hz; subst hz; show (0 : Int) ≤ (y : Int) ∧ (y : Int) ≤ 255; omega)
          intro A3 c3 w3 hown3 hgr3 hat3
          have hs3 := hgr3.size
          simp only [World.size_alloc] at hs3
          obtain ⟨m1, m2, m3, m4, m5, m6, m7⟩ := HQ.out
          have m9 := (m7.alloc (.cells #[.int .u8 (y : Int)] 5)).grown (m4.alloc _) hgr3
          have r1 := m3.grown hgr3 (fun e => own_ne_ty (m4.alloc (.cells #[.int .u8 (y : Int)] 5)) m3 (by decide) e)
          have r2 := (m5.alloc (by omega) (.cells #[.int .u8 (y : Int)] 5)).grown_ (by simp; omega) hgr3 (fun h hg e => by injection hg with hg; subst hg; exact m6 e)
          have hA3 : rowOf A3 ≠ some gl := by
            intro e
            rcases hat3 with h | h
            · exact m6 (by rw [← h]; exact e)
            · rw [h] at e; injection e with e; omega
          have hbl3 : Below base w w3 := (hbl2.alloc (by omega) _).grown hgr3 (by simp; omega) (fun g hg => (m4.lt g hg).1)
          have r3 := r1.cell 0 (v := .slice A2 o2.length c2) rfl
          have z3 := r1.frozen 0
          have hl3 : o2.length + 1 = (o2 ++ [(⟨(y : Int)⟩ : U8)]).length := by rw [List.length_append]; rfl
          have heq : o2 ++ [(⟨(y : Int)⟩ : U8)] = o1 ++ Ord.bys (d ++ [y]) := by rw [m1, Ord.bys_append, List.append_assoc]; simp [Ord.bys]
          have hdd : (d ++ [y]) ++ Ord.vb (u / 128) = Ord.vb u0 := by rw [← m2]; simp
          have HF := Lib.hid (And.intro r1 (And.intro hown3 (And.intro r2 (And.intro hA3 (And.intro heq (And.intro hdd (And.intro hl3 m9))))))); clear r1 hown3 r2 hA3 heq hdd hl3 m1 m2 m3 m4 m5 m6 m7 m9 hgr3 hat3
          go_wp2
          go_roundg ((Ord.vb (u / 128)).length)
          case measure => exact hml
          case rel =>
            obtain ⟨f1, f2, f3, f4, f5, f6, f7, f8⟩ := HF.out
            refine ⟨u / 128, d ++ [y], A3, c3, o2 ++ [(⟨(y : Int)⟩ : U8)], by omega, rfl, by go_num, by rw [← f7]; omega, ⟨f5, f6, ?_, f2.setCell _ _ (own_ne_ty f2 f1 (by decide)), f3.far_ (fun e => by injection e with e; simp at e; omega) _, f4, f8.set _⟩, hbl3.setCell h3 _, by simp [World.setCell]; omega⟩
            have := f1.set_ 0 (.slice A3 (o2.length + 1) c3)
            rw [← f7]
            simpa using this
    · have hk2 : l.take k = l := List.take_of_length_le (by omega)
      rw [hk2] at k1
      have HK := Lib.hid (And.intro k1 (And.intro k2 (And.intro k3 k6))); clear k1 k2 k3 k4 k5 k6 hk2 hkeep
      go_wp2
      go_end0
      exact ⟨rfl, ⟨A1, c1, by rw [← HK.out.1]; exact HK.out.2.1, by rw [← HK.out.1]; exact HK.out.2.2.1, h3⟩, hbl, HK.out.2.2.2⟩

end Go.Proofs.Ytljdnadejmkaeaa

/- order's forms: of, ofHeap. (Printed in part.) -/
namespace Go.Proofs.Ytljdnadejmkaeaa
open Go.RowKit

namespace Ord
/-- letters from A on -/
def lets (l : List Nat) : ByteArray := ⟨(l.map fun i => UInt8.ofNat (65 + i)).toArray⟩
theorem lets_size (l : List Nat) : (lets l).size = l.length := by simp [lets, ByteArray.size]
theorem lets_get {l : List Nat} {k i : Nat} (h : l[k]? = some i) (hi : i < 3) (hk : k < (lets l).size) : ((lets l)[k]'hk).toNat = 65 + i := by
  have hkl : k < l.length := (List.getElem?_eq_some_iff.1 h).1
  have he : l[k] = i := (List.getElem?_eq_some_iff.1 h).2
  have : (lets l)[k]'hk = UInt8.ofNat (65 + i) := by
    show ((l.map fun i => UInt8.ofNat (65 + i)).toArray)[k]'_ = _
    simp [he]
  rw [this, UInt8.toNat_ofNat']
  omega
def formV (f : Form) : Value := .agg #[.string (lets f.rd), .bool f.wr, .int .i64 f.low, .int .i64 f.high, .bool f.number, .bool f.k, .int .i64 f.exit]
end Ord
theorem ret_form {a b : Ord.Form} {p q : Bool} (h : a = b) (h' : p = q) : Ending.returned (.tuple #[Ord.formV a, .bool p]) = .returned (.tuple #[Ord.formV b, .bool q]) := by rw [h, h']
def FormPost (f : Option Ord.Form) (w : World) (e : Ending) (w' : World) : Prop := e = .returned (.tuple #[Ord.formV (f.getD Ord.form0), .bool f.isSome]) ∧ Below w.heap.size w w'

set_option maxHeartbeats 1600000 in
set_option maxRecDepth 100000 in
theorem ofHeap_any (op : Int) (w : World) : Calls Try.prog 147 #[.int .i64 op] w (FormPost (Ord.formHeap op) w) := by
  by_cases h13 : op = 13
  · subst h13
    obtain ⟨P, hP⟩ : ∃ P, FormPost (Ord.formHeap 13) w = P := ⟨_, rfl⟩
    have HP := Lib.hid hP; rw [hP]; clear hP
    go_enter Try.func147, Try.ntmps147
    go_wp2_with (refine wpList_st rfl 197 (.tmp 2) (.tmp 7) rfl w.heap.size rfl rfl (Blk.new w _ _) (by kernel_rfl) rfl rfl ?_)
    refine bodyPost_ret (results_cell_tmp rfl _ _ w.heap.size _ _ _ rfl (Blk.new w _ _).setRow Try.underlying197 rfl (by kernel_rfl)) rfl ?_
    rw [← HP.out]
    exact ⟨rfl, bel_setRow ((Below.refl _ _).alloc (Nat.le_refl _) _) (Nat.le_refl _) _⟩
  by_cases h14 : op = 14
  · subst h14
    obtain ⟨P, hP⟩ : ∃ P, FormPost (Ord.formHeap 14) w = P := ⟨_, rfl⟩
    have HP := Lib.hid hP; rw [hP]; clear hP
    go_enter Try.func147, Try.ntmps147
    go_wp2_with (refine wpList_st rfl 197 (.tmp 2) (.tmp 10) rfl w.heap.size rfl rfl (Blk.new w _ _) (by kernel_rfl) rfl rfl ?_)
    refine bodyPost_ret (results_cell_tmp rfl _ _ w.heap.size _ _ _ rfl (Blk.new w _ _).setRow Try.underlying197 rfl (by kernel_rfl)) rfl ?_
    rw [← HP.out]
    exact ⟨rfl, bel_setRow ((Below.refl _ _).alloc (Nat.le_refl _) _) (Nat.le_refl _) _⟩
  by_cases h15 : op = 15
  · subst h15
    obtain ⟨P, hP⟩ : ∃ P, FormPost (Ord.formHeap 15) w = P := ⟨_, rfl⟩
    have HP := Lib.hid hP; rw [hP]; clear hP
    go_enter Try.func147, Try.ntmps147
    go_wp2_with (refine wpList_st rfl 197 (.tmp 2) (.tmp 13) rfl w.heap.size rfl rfl (Blk.new w _ _) (by kernel_rfl) rfl rfl ?_)
    refine bodyPost_ret (results_cell_tmp rfl _ _ w.heap.size _ _ _ rfl (Blk.new w _ _).setRow Try.underlying197 rfl (by kernel_rfl)) rfl ?_
    rw [← HP.out]
    exact ⟨rfl, bel_setRow ((Below.refl _ _).alloc (Nat.le_refl _) _) (Nat.le_refl _) _⟩
  by_cases h16 : op = 16
  · subst h16
    obtain ⟨P, hP⟩ : ∃ P, FormPost (Ord.formHeap 16) w = P := ⟨_, rfl⟩
    have HP := Lib.hid hP; rw [hP]; clear hP
    go_enter Try.func147, Try.ntmps147
    go_wp2_with (refine wpList_st rfl 197 (.tmp 2) (.tmp 16) rfl w.heap.size rfl rfl (Blk.new w _ _) (by kernel_rfl) rfl rfl ?_)
    refine bodyPost_ret (results_cell_tmp rfl _ _ w.heap.size _ _ _ rfl (Blk.new w _ _).setRow Try.underlying197 rfl (by kernel_rfl)) rfl ?_
    rw [← HP.out]
    exact ⟨rfl, bel_setRow ((Below.refl _ _).alloc (Nat.le_refl _) _) (Nat.le_refl _) _⟩
  by_cases h17 : op = 17
  · subst h17
    obtain ⟨P, hP⟩ : ∃ P, FormPost (Ord.formHeap 17) w = P := ⟨_, rfl⟩
    have HP := Lib.hid hP; rw [hP]; clear hP
    go_enter Try.func147, Try.ntmps147
    go_wp2_with (refine wpList_st rfl 197 (.tmp 2) (.tmp 19) rfl w.heap.size rfl rfl (Blk.new w _ _) (by kernel_rfl) rfl rfl ?_)
    refine bodyPost_ret (results_cell_tmp rfl _ _ w.heap.size _ _ _ rfl (Blk.new w _ _).setRow Try.underlying197 rfl (by kernel_rfl)) rfl ?_
    rw [← HP.out]
    exact ⟨rfl, bel_setRow ((Below.refl _ _).alloc (Nat.le_refl _) _) (Nat.le_refl _) _⟩
  by_cases h18 : op = 18
  · subst h18
    obtain ⟨P, hP⟩ : ∃ P, FormPost (Ord.formHeap 18) w = P := ⟨_, rfl⟩
    have HP := Lib.hid hP; rw [hP]; clear hP
    go_enter Try.func147, Try.ntmps147
    go_wp2_with (refine wpList_st rfl 197 (.tmp 2) (.tmp 22) rfl w.heap.size rfl rfl (Blk.new w _ _) (by kernel_rfl) rfl rfl ?_)
    refine bodyPost_ret (results_cell_tmp rfl _ _ w.heap.size _ _ _ rfl (Blk.new w _ _).setRow Try.underlying197 rfl (by kernel_rfl)) rfl ?_
    rw [← HP.out]
    exact ⟨rfl, bel_setRow ((Below.refl _ _).alloc (Nat.le_refl _) _) (Nat.le_refl _) _⟩
  by_cases h19 : op = 19
  · subst h19
    obtain ⟨P, hP⟩ : ∃ P, FormPost (Ord.formHeap 19) w = P := ⟨_, rfl⟩
    have HP := Lib.hid hP; rw [hP]; clear hP
    go_enter Try.func147, Try.ntmps147
    go_wp2_with (refine wpList_st rfl 197 (.tmp 2) (.tmp 25) rfl w.heap.size rfl rfl (Blk.new w _ _) (by kernel_rfl) rfl rfl ?_)
    refine bodyPost_ret (results_cell_tmp rfl _ _ w.heap.size _ _ _ rfl (Blk.new w _ _).setRow Try.underlying197 rfl (by kernel_rfl)) rfl ?_
    rw [← HP.out]
    exact ⟨rfl, bel_setRow ((Below.refl _ _).alloc (Nat.le_refl _) _) (Nat.le_refl _) _⟩
  by_cases h20 : op = 20
  · subst h20
    obtain ⟨P, hP⟩ : ∃ P, FormPost (Ord.formHeap 20) w = P := ⟨_, rfl⟩
    have HP := Lib.hid hP; rw [hP]; clear hP
    go_enter Try.func147, Try.ntmps147
    go_wp2_with (refine wpList_st rfl 197 (.tmp 2) (.tmp 28) rfl w.heap.size rfl rfl (Blk.new w _ _) (by kernel_rfl) rfl rfl ?_)
    refine bodyPost_ret (results_cell_tmp rfl _ _ w.heap.size _ _ _ rfl (Blk.new w _ _).setRow Try.underlying197 rfl (by kernel_rfl)) rfl ?_
    rw [← HP.out]
    exact ⟨rfl, bel_setRow ((Below.refl _ _).alloc (Nat.le_refl _) _) (Nat.le_refl _) _⟩
  by_cases h21 : op = 21
  · subst h21
    obtain ⟨P, hP⟩ : ∃ P, FormPost (Ord.formHeap 21) w = P := ⟨_, rfl⟩
    have HP := Lib.hid hP; rw [hP]; clear hP
    go_enter Try.func147, Try.ntmps147
    go_wp2_with (refine wpList_st rfl 197 (.tmp 2) (.tmp 31) rfl w.heap.size rfl rfl (Blk.new w _ _) (by kernel_rfl) rfl rfl ?_)
    refine bodyPost_ret (results_cell_tmp rfl _ _ w.heap.size _ _ _ rfl (Blk.new w _ _).setRow Try.underlying197 rfl (by kernel_rfl)) rfl ?_
    rw [← HP.out]
    exact ⟨rfl, bel_setRow ((Below.refl _ _).alloc (Nat.le_refl _) _) (Nat.le_refl _) _⟩
  by_cases h22 : op = 22
  · subst h22
    obtain ⟨P, hP⟩ : ∃ P, FormPost (Ord.formHeap 22) w = P := ⟨_, rfl⟩
    have HP := Lib.hid hP; rw [hP]; clear hP
    go_enter Try.func147, Try.ntmps147
    go_wp2_with (refine wpList_st rfl 197 (.tmp 2) (.tmp 34) rfl w.heap.size rfl rfl (Blk.new w _ _) (by kernel_rfl) rfl rfl ?_)
    refine bodyPost_ret (results_cell_tmp rfl _ _ w.heap.size _ _ _ rfl (Blk.new w _ _).setRow Try.underlying197 rfl (by kernel_rfl)) rfl ?_
    rw [← HP.out]
    exact ⟨rfl, bel_setRow ((Below.refl _ _).alloc (Nat.le_refl _) _) (Nat.le_refl _) _⟩
  have hn : Ord.formHeap op = none := by simp [Ord.formHeap, h13, h14, h15, h16, h17, h18, h19, h20, h21, h22]
  rw [hn]; clear hn
  have b13 : (op == 13) = false := by simpa using h13
  have b14 : (op == 14) = false := by simpa using h14
  have b15 : (op == 15) = false := by simpa using h15
  have b16 : (op == 16) = false := by simpa using h16
  have b17 : (op == 17) = false := by simpa using h17
  have b18 : (op == 18) = false := by simpa using h18
  have b19 : (op == 19) = false := by simpa using h19
  have b20 : (op == 20) = false := by simpa using h20
  have b21 : (op == 21) = false := by simpa using h21
  have b22 : (op == 22) = false := by simpa using h22
  clear h13 h14 h15 h16 h17 h18 h19 h20 h21 h22
  go_enter Try.func147, Try.ntmps147
  go_wp2_with (refine wpList_st rfl 197 (.tmp 2) (.tmp 35) rfl w.heap.size rfl rfl (Blk.new w _ _) (by kernel_rfl) rfl rfl ?_)
  refine bodyPost_ret (results_cell_tmp rfl _ _ w.heap.size _ _ _ rfl (Blk.new w _ _).setRow Try.underlying197 rfl (by kernel_rfl)) rfl ?_
  exact ⟨rfl, bel_setRow ((Below.refl _ _).alloc (Nat.le_refl _) _) (Nat.le_refl _) _⟩

set_option maxHeartbeats 1600000 in
set_option maxRecDepth 100000 in
theorem of_any (op : Int) (w : World) : Calls Try.prog 130 #[.int .i64 op] w (FormPost (Ord.form op) w) := by
  by_cases h1 : op = 1
  · subst h1
    obtain ⟨P, hP⟩ : ∃ P, FormPost (Ord.form 1) w = P := ⟨_, rfl⟩
    have HP := Lib.hid hP; rw [hP]; clear hP
    go_enter Try.func130, Try.ntmps130
    go_wp2_with (refine wpList_st rfl 197 (.tmp 2) (.tmp 7) rfl w.heap.size rfl rfl (Blk.new w _ _) (by kernel_rfl) rfl rfl ?_)
    refine bodyPost_ret (results_cell_tmp rfl _ _ w.heap.size _ _ _ rfl (Blk.new w _ _).setRow Try.underlying197 rfl (by kernel_rfl)) rfl ?_
    rw [← HP.out]
    exact ⟨rfl, bel_setRow ((Below.refl _ _).alloc (Nat.le_refl _) _) (Nat.le_refl _) _⟩
  by_cases h2 : op = 2
  · subst h2
    obtain ⟨P, hP⟩ : ∃ P, FormPost (Ord.form 2) w = P := ⟨_, rfl⟩
    have HP := Lib.hid hP; rw [hP]; clear hP
    go_enter Try.func130, Try.ntmps130
    go_wp2_with (refine wpList_st rfl 197 (.tmp 2) (.tmp 10) rfl w.heap.size rfl rfl (Blk.new w _ _) (by kernel_rfl) rfl rfl ?_)
    refine bodyPost_ret (results_cell_tmp rfl _ _ w.heap.size _ _ _ rfl (Blk.new w _ _).setRow Try.underlying197 rfl (by kernel_rfl)) rfl ?_
    rw [← HP.out]
    exact ⟨rfl, bel_setRow ((Below.refl _ _).alloc (Nat.le_refl _) _) (Nat.le_refl _) _⟩
  by_cases h3 : op = 3
  · subst h3
    obtain ⟨P, hP⟩ : ∃ P, FormPost (Ord.form 3) w = P := ⟨_, rfl⟩
    have HP := Lib.hid hP; rw [hP]; clear hP
    go_enter Try.func130, Try.ntmps130
    go_wp2_with (refine wpList_st rfl 197 (.tmp 2) (.tmp 13) rfl w.heap.size rfl rfl (Blk.new w _ _) (by kernel_rfl) rfl rfl ?_)
    refine bodyPost_ret (results_cell_tmp rfl _ _ w.heap.size _ _ _ rfl (Blk.new w _ _).setRow Try.underlying197 rfl (by kernel_rfl)) rfl ?_
    rw [← HP.out]
    exact ⟨rfl, bel_setRow ((Below.refl _ _).alloc (Nat.le_refl _) _) (Nat.le_refl _) _⟩
  by_cases h4 : op = 4
  · subst h4
    obtain ⟨P, hP⟩ : ∃ P, FormPost (Ord.form 4) w = P := ⟨_, rfl⟩
    have HP := Lib.hid hP; rw [hP]; clear hP
    go_enter Try.func130, Try.ntmps130
    go_wp2_with (refine wpList_st rfl 197 (.tmp 2) (.tmp 16) rfl w.heap.size rfl rfl (Blk.new w _ _) (by kernel_rfl) rfl rfl ?_)
    refine bodyPost_ret (results_cell_tmp rfl _ _ w.heap.size _ _ _ rfl (Blk.new w _ _).setRow Try.underlying197 rfl (by kernel_rfl)) rfl ?_
    rw [← HP.out]
    exact ⟨rfl, bel_setRow ((Below.refl _ _).alloc (Nat.le_refl _) _) (Nat.le_refl _) _⟩
  by_cases h5 : op = 5
  · subst h5
    obtain ⟨P, hP⟩ : ∃ P, FormPost (Ord.form 5) w = P := ⟨_, rfl⟩
    have HP := Lib.hid hP; rw [hP]; clear hP
    go_enter Try.func130, Try.ntmps130
    go_wp2_with (refine wpList_st rfl 197 (.tmp 2) (.tmp 19) rfl w.heap.size rfl rfl (Blk.new w _ _) (by kernel_rfl) rfl rfl ?_)
    refine bodyPost_ret (results_cell_tmp rfl _ _ w.heap.size _ _ _ rfl (Blk.new w _ _).setRow Try.underlying197 rfl (by kernel_rfl)) rfl ?_
    rw [← HP.out]
    exact ⟨rfl, bel_setRow ((Below.refl _ _).alloc (Nat.le_refl _) _) (Nat.le_refl _) _⟩
  by_cases h6 : op = 6
  · subst h6
    obtain ⟨P, hP⟩ : ∃ P, FormPost (Ord.form 6) w = P := ⟨_, rfl⟩
    have HP := Lib.hid hP; rw [hP]; clear hP
    go_enter Try.func130, Try.ntmps130
    go_wp2_with (refine wpList_st rfl 197 (.tmp 2) (.tmp 22) rfl w.heap.size rfl rfl (Blk.new w _ _) (by kernel_rfl) rfl rfl ?_)
    refine bodyPost_ret (results_cell_tmp rfl _ _ w.heap.size _ _ _ rfl (Blk.new w _ _).setRow Try.underlying197 rfl (by kernel_rfl)) rfl ?_
    rw [← HP.out]
    exact ⟨rfl, bel_setRow ((Below.refl _ _).alloc (Nat.le_refl _) _) (Nat.le_refl _) _⟩
  by_cases h7 : op = 7
  · subst h7
    obtain ⟨P, hP⟩ : ∃ P, FormPost (Ord.form 7) w = P := ⟨_, rfl⟩
    have HP := Lib.hid hP; rw [hP]; clear hP
    go_enter Try.func130, Try.ntmps130
    go_wp2_with (refine wpList_st rfl 197 (.tmp 2) (.tmp 25) rfl w.heap.size rfl rfl (Blk.new w _ _) (by kernel_rfl) rfl rfl ?_)
    refine bodyPost_ret (results_cell_tmp rfl _ _ w.heap.size _ _ _ rfl (Blk.new w _ _).setRow Try.underlying197 rfl (by kernel_rfl)) rfl ?_
    rw [← HP.out]
    exact ⟨rfl, bel_setRow ((Below.refl _ _).alloc (Nat.le_refl _) _) (Nat.le_refl _) _⟩
  by_cases h8 : op = 8
  · subst h8
    obtain ⟨P, hP⟩ : ∃ P, FormPost (Ord.form 8) w = P := ⟨_, rfl⟩
    have HP := Lib.hid hP; rw [hP]; clear hP
    go_enter Try.func130, Try.ntmps130
    go_wp2_with (refine wpList_st rfl 197 (.tmp 2) (.tmp 28) rfl w.heap.size rfl rfl (Blk.new w _ _) (by kernel_rfl) rfl rfl ?_)
    refine bodyPost_ret (results_cell_tmp rfl _ _ w.heap.size _ _ _ rfl (Blk.new w _ _).setRow Try.underlying197 rfl (by kernel_rfl)) rfl ?_
    rw [← HP.out]
    exact ⟨rfl, bel_setRow ((Below.refl _ _).alloc (Nat.le_refl _) _) (Nat.le_refl _) _⟩
  by_cases h9 : op = 9
  · subst h9
    obtain ⟨P, hP⟩ : ∃ P, FormPost (Ord.form 9) w = P := ⟨_, rfl⟩
    have HP := Lib.hid hP; rw [hP]; clear hP
    go_enter Try.func130, Try.ntmps130
    go_wp2_with (refine wpList_st rfl 197 (.tmp 2) (.tmp 31) rfl w.heap.size rfl rfl (Blk.new w _ _) (by kernel_rfl) rfl rfl ?_)
    refine bodyPost_ret (results_cell_tmp rfl _ _ w.heap.size _ _ _ rfl (Blk.new w _ _).setRow Try.underlying197 rfl (by kernel_rfl)) rfl ?_
    rw [← HP.out]
    exact ⟨rfl, bel_setRow ((Below.refl _ _).alloc (Nat.le_refl _) _) (Nat.le_refl _) _⟩
  by_cases h10 : op = 10
  · subst h10
    obtain ⟨P, hP⟩ : ∃ P, FormPost (Ord.form 10) w = P := ⟨_, rfl⟩
    have HP := Lib.hid hP; rw [hP]; clear hP
    go_enter Try.func130, Try.ntmps130
    go_wp2_with (refine wpList_st rfl 197 (.tmp 2) (.tmp 34) rfl w.heap.size rfl rfl (Blk.new w _ _) (by kernel_rfl) rfl rfl ?_)
    refine bodyPost_ret (results_cell_tmp rfl _ _ w.heap.size _ _ _ rfl (Blk.new w _ _).setRow Try.underlying197 rfl (by kernel_rfl)) rfl ?_
    rw [← HP.out]
    exact ⟨rfl, bel_setRow ((Below.refl _ _).alloc (Nat.le_refl _) _) (Nat.le_refl _) _⟩
  by_cases h11 : op = 11
  · subst h11
    obtain ⟨P, hP⟩ : ∃ P, FormPost (Ord.form 11) w = P := ⟨_, rfl⟩
    have HP := Lib.hid hP; rw [hP]; clear hP
    go_enter Try.func130, Try.ntmps130
    go_wp2_with (refine wpList_st rfl 197 (.tmp 2) (.tmp 37) rfl w.heap.size rfl rfl (Blk.new w _ _) (by kernel_rfl) rfl rfl ?_)
    refine bodyPost_ret (results_cell_tmp rfl _ _ w.heap.size _ _ _ rfl (Blk.new w _ _).setRow Try.underlying197 rfl (by kernel_rfl)) rfl ?_
    rw [← HP.out]
    exact ⟨rfl, bel_setRow ((Below.refl _ _).alloc (Nat.le_refl _) _) (Nat.le_refl _) _⟩
  by_cases h12 : op = 12
  · subst h12
    obtain ⟨P, hP⟩ : ∃ P, FormPost (Ord.form 12) w = P := ⟨_, rfl⟩
    have HP := Lib.hid hP; rw [hP]; clear hP
    go_enter Try.func130, Try.ntmps130
    go_wp2_with (refine wpList_st rfl 197 (.tmp 2) (.tmp 40) rfl w.heap.size rfl rfl (Blk.new w _ _) (by kernel_rfl) rfl rfl ?_)
    refine bodyPost_ret (results_cell_tmp rfl _ _ w.heap.size _ _ _ rfl (Blk.new w _ _).setRow Try.underlying197 rfl (by kernel_rfl)) rfl ?_
    rw [← HP.out]
    exact ⟨rfl, bel_setRow ((Below.refl _ _).alloc (Nat.le_refl _) _) (Nat.le_refl _) _⟩
  have hn : Ord.form op = Ord.formHeap op := by simp [Ord.form, h1, h2, h3, h4, h5, h6, h7, h8, h9, h10, h11, h12]
  rw [hn]; clear hn
  have b1 : (op == 1) = false := by simpa using h1
  have b2 : (op == 2) = false := by simpa using h2
  have b3 : (op == 3) = false := by simpa using h3
  have b4 : (op == 4) = false := by simpa using h4
  have b5 : (op == 5) = false := by simpa using h5
  have b6 : (op == 6) = false := by simpa using h6
  have b7 : (op == 7) = false := by simpa using h7
  have b8 : (op == 8) = false := by simpa using h8
  have b9 : (op == 9) = false := by simpa using h9
  have b10 : (op == 10) = false := by simpa using h10
  have b11 : (op == 11) = false := by simpa using h11
  have b12 : (op == 12) = false := by simpa using h12
  clear h1 h2 h3 h4 h5 h6 h7 h8 h9 h10 h11 h12
  obtain ⟨f, hf⟩ : ∃ f, Ord.formHeap op = f := ⟨_, rfl⟩
  have HC := Lib.hid (ofHeap_any op (w.alloc (.cells #[.string ⟨#[]⟩, .bool false, .int .i64 0, .int .i64 0, .bool false, .bool false, .int .i64 0] 197)))
  rw [hf] at HC ⊢; clear hf
  go_enter Try.func130, Try.ntmps130
  go_wp2_with fail
  refine HC.out.mono ?_
  rintro e w1 ⟨rfl, hb1⟩
  have hs1 := hb1.size
  have hG := Lib.hid ((Blk.new w 197 #[.string ⟨#[]⟩, .bool false, .int .i64 0, .int .i64 0, .bool false, .bool false, .int .i64 0]).fresh hb1)
  have hbl : Below w.heap.size w w1 := ((Below.refl _ _).alloc (Nat.le_refl _) _).trans (hb1.mono (by simp))
  clear hb1 HC
  go_wp2_with (refine wpList_st rfl 197 (.tmp 2) (.tmp 43) rfl w.heap.size rfl rfl hG.out (by kernel_rfl) rfl rfl ?_)
  refine bodyPost_ret (results_cell_tmp rfl _ _ w.heap.size _ _ _ rfl hG.out.setRow Try.underlying197 rfl (by kernel_rfl)) rfl ?_
  exact ⟨rfl, bel_setRow hbl (Nat.le_refl _) _⟩

end Go.Proofs.Ytljdnadejmkaeaa

/- order: what an order reads, writes; registers. -/
namespace Go.Proofs.Ytljdnadejmkaeaa
open Go.RowKit

theorem own_iter {α : Type} [Flat α] {w : World} {base : Nat} {E : TypeId} {A : Option Addr} {c : Nat} {l : List α} {k : Nat} {s : ByteArray} {pos : Nat} (h : Own w base E A c l) (hk : w.heap[k]? = some (.stringIter s pos)) (pos' : Nat) : Own (w.iterAt k s pos') base E A c l ∧ rowOf A ≠ some k := by
  have hne : rowOf A ≠ some k := by
    intro hA
    rcases h.2 with ⟨h1, _⟩ | ⟨g', cap, cur, hv, _, hh, _⟩
    · injection h1 with h3; rw [h3] at hA; cases hA
    · injection hv with h3; rw [h3] at hA; injection hA with hA; simp only at hA; subst hA
      rw [hk] at hh; cases hh
  exact ⟨h.block_ fun g hg => Lib.iterAt_other _ _ _ _ _ (fun e => hne (by rw [hg, e])), hne⟩
theorem blk_iter {w : World} {g k : Nat} {t : TypeId} {cs : Array Value} {s : ByteArray} (h : Blk w g t cs) (hk : g ≠ k) (pos' : Nat) : Blk (w.iterAt k s pos') g t cs := (Lib.iterAt_other _ _ _ _ _ hk).trans h

theorem isReg_any (n : Int) (w : World) : Calls Try.prog 133 #[.int .i64 n] w fun e w' => e = .returned (.bool (Ord.isReg n)) ∧ w' = w := by
  by_cases h0 : 0 ≤ n
  · by_cases h1 : n < 8
    · have hr : Ord.isReg n = true := by simp [Ord.isReg, h0, h1]
      rw [hr]; clear hr
      go_enter Try.func133, Try.ntmps133
      go_wp2
      go_ret
      exact ⟨rfl, rfl⟩
    · have hr : Ord.isReg n = false := by simp [Ord.isReg]; omega
      rw [hr]; clear hr
      go_enter Try.func133, Try.ntmps133
      go_wp2
      go_ret
      exact ⟨ret_bool (by simp; try omega), rfl⟩
  · have hr : Ord.isReg n = false := by simp [Ord.isReg]; omega
    rw [hr]; clear hr
    go_enter Try.func133, Try.ntmps133
    go_wp2
    go_ret
    exact ⟨ret_bool (by simp), rfl⟩

theorem form_call (op : Int) (w : World) : Calls Try.prog 130 #[.int .i64 op] w fun e w' => ∃ (fr : List Nat) (fw : Bool) (fl fh : Int) (fn fk : Bool) (fe : Int) (b : Bool), Hid (Ord.theForm op = ⟨fr, fw, fl, fh, fn, fk, fe⟩ ∧ (Ord.form op).isSome = b) ∧ e = .returned (.tuple #[.agg #[.string (Ord.lets fr), .bool fw, .int .i64 fl, .int .i64 fh, .bool fn, .bool fk, .int .i64 fe], .bool b]) ∧ Below w.heap.size w w' := by
  refine (of_any op w).mono ?_
  rintro e w' ⟨rfl, hb⟩
  exact ⟨_, _, _, _, _, _, _, _, ⟨rfl, rfl⟩, rfl, hb⟩

set_option maxHeartbeats 800000 in
set_option maxRecDepth 100000 in
theorem writes_any (x : RO) (w : World) : Calls Try.prog 134 #[.agg #[.int .i64 x.op, .int .i64 x.a, .int .i64 x.b, .int .i64 x.c, .int .i64 x.n, .int .i64 x.exit, .int .i64 x.k.1, .int .i64 x.k.2]] w fun e w' => e = .returned (.int .i64 (Ord.writes x)) ∧ Below w.heap.size w w' := by
  obtain ⟨q, hq⟩ : ∃ q, Ord.writes x = q := ⟨_, rfl⟩
  have hQ := Lib.hid hq
  rw [hq]; clear hq
  go_enter Try.func134, Try.ntmps134
  go_wp2_with fail
  refine calls_world (fun W => Blk W w.heap.size 146 #[.int .i64 x.op, .int .i64 x.a, .int .i64 x.b, .int .i64 x.c, .int .i64 x.n, .int .i64 x.exit, .int .i64 x.k.1, .int .i64 x.k.2] ∧ Below w.heap.size w W ∧ w.heap.size + 1 ≤ W.heap.size) ⟨Blk.new _ _ _, (Below.refl _ _).alloc (Nat.le_refl _) _, by simp⟩ ?_
  rintro W ⟨hX, hb0, hs0⟩
  refine (form_call x.op W).mono ?_
  rintro e w1 ⟨fr, fw, fl, fh, fn, fk, fe, b, hf, rfl, hb1⟩
  have hs1 := hb1.size
  have hX1 := hX.fresh hb1
  have q0 := hX1.cell 1 (v := .int .i64 x.a) rfl
  have lt0 : w.heap.size < w1.heap.size := by omega
  have hbl := hb0.trans (hb1.mono (by omega))
  have hw : Ord.writes x = if fw then x.a else -1 := by unfold Ord.writes; rw [hf.out.1]
  have HW := Lib.hid (hQ.out.symm.trans hw)
  clear hw hf hX hX1
  cases fw with
  | true =>
    go_wp2_with fail
    go_ret
    exact ⟨by rw [HW.out] <;> rfl, (hbl.alloc (by omega) _)⟩
  | false =>
    go_wp2_with fail
    go_ret
    exact ⟨by rw [HW.out] <;> rfl, (hbl.alloc (by omega) _)⟩

theorem rd_cases (P : List Nat → Prop) (h0 : P []) (h1 : P [0]) (h2 : P [1]) (h3 : P [0, 1]) (h4 : P [1, 2]) (h5 : P [0, 1, 2]) (op : Int) : P (Ord.theForm op).rd := by
  by_cases hop : 1 ≤ op ∧ op ≤ 22
  · rcases (by omega : op = 1 ∨ op = 2 ∨ op = 3 ∨ op = 4 ∨ op = 5 ∨ op = 6 ∨ op = 7 ∨ op = 8 ∨ op = 9 ∨ op = 10 ∨ op = 11 ∨ op = 12 ∨ op = 13 ∨ op = 14 ∨ op = 15 ∨ op = 16 ∨ op = 17 ∨ op = 18 ∨ op = 19 ∨ op = 20 ∨ op = 21 ∨ op = 22) with rfl | rfl | rfl | rfl | rfl | rfl | rfl | rfl | rfl | rfl | rfl | rfl | rfl | rfl | rfl | rfl | rfl | rfl | rfl | rfl | rfl | rfl <;> assumption
  · have hn : Ord.form op = none := by
      unfold Ord.form Ord.formHeap
      repeat rw [if_neg (by omega)]
    unfold Ord.theForm; rw [hn]; exact h0
theorem rd_ok (op : Int) : ∀ i ∈ (Ord.theForm op).rd, i < 3 := rd_cases (fun l => ∀ i ∈ l, i < 3) (by decide) (by decide) (by decide) (by decide) (by decide) (by decide) op
theorem rd_len (op : Int) : (Ord.theForm op).rd.length ≤ 3 := rd_cases (fun l => l.length ≤ 3) (by decide) (by decide) (by decide) (by decide) (by decide) (by decide) op
theorem fld_idx (x : RO) (i : Nat) (hi : i < 3) (w : World) : (Instr.index 175 (.agg #[.int .i64 x.a, .int .i64 x.b, .int .i64 x.c]) (.int .i32 (i : Int))).run Try.prog w = .ok (.int .i64 (Ord.fld x i)) w := by
  rcases (by omega : i = 0 ∨ i = 1 ∨ i = 2) with rfl | rfl | rfl <;> kernel_rfl

theorem fld_ok (x : RO) (h : I64 x.a ∧ I64 x.b ∧ I64 x.c) : ∀ i, I64 (Ord.fld x i)
  | 0 => h.1
  | 1 => h.2.1
  | _ + 2 => h.2.2

set_option maxHeartbeats 1600000 in
set_option maxRecDepth 100000 in
theorem reads_any (x : RO) (w : World) (hxi : I64 x.a ∧ I64 x.b ∧ I64 x.c) : Calls Try.prog 132 #[.agg #[.int .i64 x.op, .int .i64 x.a, .int .i64 x.b, .int .i64 x.c, .int .i64 x.n, .int .i64 x.exit, .int .i64 x.k.1, .int .i64 x.k.2]] w fun e w' => ∃ (A : Option Addr) (c m : Nat), e = .returned (.slice A m c) ∧ (Ord.reads x).length = m ∧ Own w' w.heap.size 3 A c (Ord.reads x) ∧ Below w.heap.size w w' := by
  obtain ⟨i0, hi, hz0, hz1, hz2⟩ := info_parts infoInt
  have HI := Lib.hid (fld_ok x hxi)
  clear hxi
  have hro := rd_ok x.op
  have hrl := rd_len x.op
  obtain ⟨F, hF⟩ : ∃ F, Ord.theForm x.op = F := ⟨_, rfl⟩
  rw [hF] at hro hrl
  have HF := Lib.hid (And.intro hF hro); clear hF hro
  go_enter Try.func132, Try.ntmps132
  go_wp2_with fail
  refine calls_world (fun W => Blk W w.heap.size 146 #[.int .i64 x.op, .int .i64 x.a, .int .i64 x.b, .int .i64 x.c, .int .i64 x.n, .int .i64 x.exit, .int .i64 x.k.1, .int .i64 x.k.2] ∧ Below w.heap.size w W ∧ w.heap.size + 1 ≤ W.heap.size) ⟨Blk.new _ _ _, (Below.refl _ _).alloc (Nat.le_refl _) _, by simp⟩ ?_
  rintro W ⟨hX, hb0, hs0⟩
  refine (form_call x.op W).mono ?_
  rintro e w1 ⟨fr, fw, fl, fh, fn, fk, fe, b, hf, rfl, hb1⟩
  have hs1 := hb1.size
  have hbl := hb0.trans (hb1.mono (by omega))
  have hX1 := Lib.hid (hX.fresh hb1)
  have hFr : F.rd = fr := by rw [← HF.out.1, hf.out.1]
  have hro := HF.out.2
  rw [hFr] at hrl hro
  have HR := Lib.hid (And.intro hro (show Ord.reads x = fr.map (Ord.fld x) by unfold Ord.reads; rw [hf.out.1])); clear hro hf hFr HF hX
  have hsz := Ord.lets_size fr
  have HS := Lib.hid hsz; clear hsz
  go_wp2_with fail
  go_loopg [5] fr.length (fun gk ov wr => ∃ (k m : Nat) (A : Option Addr) (c : Nat), k ≤ fr.length ∧ gk = fr.length - k ∧ ov = .slice A m c ∧ m ≤ k ∧ Hid (Own wr w.heap.size 3 A c ((fr.take k).map (Ord.fld x)) ∧ ((fr.take k).map (Ord.fld x)).length = m ∧ wr.heap[w1.heap.size + 1]? = some (.stringIter (Ord.lets fr) k) ∧ Blk wr w.heap.size 146 #[.int .i64 x.op, .int .i64 x.a, .int .i64 x.b, .int .i64 x.c, .int .i64 x.n, .int .i64 x.exit, .int .i64 x.k.1, .int .i64 x.k.2]) ∧ Below w.heap.size w wr ∧ w1.heap.size + 1 < wr.heap.size)
  case atStart => exact ⟨0, 0, none, 0, Nat.zero_le _, rfl, rfl, Nat.le_refl _, ⟨Own.nil_, rfl, (by have h := World.iter_heap (w1.alloc (.cells #[.string (Ord.lets fr), .bool fw, .int .i64 fl, .int .i64 fh, .bool fn, .bool fk, .int .i64 fe] 197)) (Ord.lets fr) 0; rw [World.size_alloc] at h; exact h), (hX1.out.alloc _).alloc _⟩, (hbl.alloc (by omega) _).alloc (by simp; omega) _, by simp [World.iter]⟩
  case round =>
    obtain ⟨k, m, A, c, hk, rfl, rfl, hmk, hkeep, hbl2, hs2⟩ := hrel
    obtain ⟨k1, k2, k3, k4⟩ := hkeep.out
    have hss := HS.out
    by_cases hlt : k < fr.length
    · obtain ⟨i, hi3⟩ : ∃ i, fr[k]? = some i := ⟨_, List.getElem?_eq_getElem hlt⟩
      have hi4 := HR.out.1 i (List.mem_of_getElem? hi3)
      have hnx := fun ty => Lib.run_next_ascii_at (P := Try.prog) wr (w1.heap.size + 1) (Ord.lets fr) k ty k3 (by omega) (by rw [Ord.lets_get hi3 hi4]; omega)
      rw [Ord.lets_get hi3 hi4] at hnx
      obtain ⟨j1, j2⟩ := own_iter k1 k3 (k + 1)
      have j3 := blk_iter k4 (k := w1.heap.size + 1) (s := Ord.lets fr) (by omega) (k + 1)
      have j4 := Lib.iterAt_heap wr (w1.heap.size + 1) (Ord.lets fr) k (k + 1) k3
      have j5 := Lib.below_iterAt hbl2 (k := w1.heap.size + 1) (by omega) (Ord.lets fr) (k + 1)
      have j6 : w1.heap.size + 1 < (wr.iterAt (w1.heap.size + 1) (Ord.lets fr) (k + 1)).heap.size := by rw [Lib.iterAt_size]; exact hs2
      obtain ⟨V, hV⟩ : ∃ V, wr.iterAt (w1.heap.size + 1) (Ord.lets fr) (k + 1) = V := ⟨_, rfl⟩
      rw [hV] at hnx j1 j3 j4 j5 j6
      have q1 := j3.cell 1 (v := .int .i64 x.a) rfl
      have q2 := j3.cell 2 (v := .int .i64 x.b) rfl
      have q3 := j3.cell 3 (v := .int .i64 x.c) rfl
      have hfx : (Instr.index 175 (.agg #[.int .i64 x.a, .int .i64 x.b, .int .i64 x.c]) (.int .i32 (65 + (i : Int) - 65))).run Try.prog V = .ok (.int .i64 (Ord.fld x i)) V := by rw [show 65 + (i : Int) - 65 = (i : Int) by omega]; exact fld_idx x i hi4 V
      have hmt : (fr.take (k + 1)).map (Ord.fld x) = (fr.take k).map (Ord.fld x) ++ [Ord.fld x i] := by rw [List.take_add_one, hi3]; simp
      have hyi : I64 (Ord.fld x i) := HI.out i
      obtain ⟨y, hy⟩ : ∃ y, Ord.fld x i = y := ⟨_, rfl⟩
      rw [hy] at hfx hmt hyi
      have HK := Lib.hid (And.intro j1 (And.intro k2 (And.intro j3 (And.intro j4 (And.intro hmt hyi))))); clear hyi k1 k2 k3 k4 hkeep hi3 hV j1 j2 j3 j4 hmt hy hss
      go_wp2_with (at_builtin; go_must (refine wpList_app (α := Int) (n := m) (m := 1) (B := V.heap.size + 1) (r := [y]) rfl (.tmp 20) (.tmp 31) _ rfl w.heap.size 3 i0 _ 8 Try.underlying40 hi hz0 hz1 hz2 rfl (by decide) int_one (by rfl) HK.out.2.1 (HK.out.1.alloc _) (by rfl) (At.built V _ _ [y] rfl (by intro u hu; simp at hu; subst hu; exact HK.out.2.2.2.2.2)) rfl (by omega) (by simp only [maxLen]; omega) (by simp; omega) ?_))
      intro A5 c5 w5 ho5 hgr5 hat5
      have hs5 := hgr5.size
      simp only [World.size_alloc] at hs5
      have hb5 : Below w.heap.size w w5 := (j5.alloc (by omega) _).grown hgr5 (by simp; omega) (fun g hg => (HK.out.1.lt g hg).1)
      have l5 := ((HK.out.2.2.1).alloc (.cells #[.int .i64 y] 3)).grown hgr5 (own_ne_ty (HK.out.1.alloc (.cells #[.int .i64 y] 3)) (HK.out.2.2.1.alloc (.cells #[.int .i64 y] 3)) (by decide))
      have i5 : w5.heap[w1.heap.size + 1]? = some (.stringIter (Ord.lets fr) (k + 1)) := (hgr5.block (w1.heap.size + 1) (by simp; omega) (fun e => (own_iter HK.out.1 HK.out.2.2.2.1 0).2 e.symm)).trans ((Below.heap_alloc _ _ _ (by omega)).trans HK.out.2.2.2.1)
      have H5 := Lib.hid (And.intro ho5 (And.intro l5 i5)); clear ho5 l5 i5 hgr5 hat5
      go_wp2_with fail
      go_roundg (fr.length - (k + 1))
      case measure => omega
      case rel => exact ⟨k + 1, m + 1, A5, c5, by omega, rfl, rfl, by omega, ⟨by have h5 := H5.out.1; rw [← List.map_take] at h5; rw [HK.out.2.2.2.2.1]; exact h5, by rw [HK.out.2.2.2.2.1, List.length_append, HK.out.2.1]; rfl, H5.out.2.2, H5.out.2.1⟩, hb5, by omega⟩
    · have hss := HS.out
      have hnx := fun ty => Lib.run_next_end_at (P := Try.prog) wr (w1.heap.size + 1) (Ord.lets fr) k ty k3 (by omega)
      rw [List.take_of_length_le (by omega)] at k1 k2
      have HK := Lib.hid (And.intro k1 k2); clear k1 k2 k3 k4 hkeep hss
      go_wp2_with fail
      go_ret
      exact ⟨A, c, m, rfl, by rw [HR.out.2]; exact HK.out.2, by rw [HR.out.2]; exact HK.out.1, hbl2⟩

end Go.Proofs.Ytljdnadejmkaeaa

/- order: the fields that an order leaves idle. -/
namespace Go.Proofs.Ytljdnadejmkaeaa
open Go.RowKit

namespace Ord
def idleK (f : Form) (x : RO) (k : Nat) : List Int := ((List.range k).filter fun i => !used f i).map (fld x)
theorem idleK_three (f : Form) (x : RO) : idleK f x 3 = idle f x := rfl
theorem idleK_succ (f : Form) (x : RO) (k : Nat) : idleK f x (k + 1) = idleK f x k ++ (if used f k then [] else [fld x k]) := by
  unfold idleK
  rw [List.range_succ, List.filter_append, List.map_append]
  congr 1
  cases h : used f k <;> simp [h]
theorem idleK_len (f : Form) (x : RO) (k : Nat) : (idleK f x k).length ≤ k := by
  unfold idleK
  rw [List.length_map]
  exact Nat.le_trans (List.length_filter_le _ _) (by simp)
/-- is a field used, as far as letters were looked at? -/
def usedJ (fr : List Nat) (fw fn : Bool) (i j : Nat) : Bool := (fw && i == 0 || fn && i == 1) || (fr.take j).contains i
theorem usedJ_end {fr : List Nat} {fw fn : Bool} {i j : Nat} (h : fr.length ≤ j) (fl fh fe : Int) (fk : Bool) : usedJ fr fw fn i j = used ⟨fr, fw, fl, fh, fn, fk, fe⟩ i := by
  unfold usedJ used; rw [List.take_of_length_le h]
theorem usedJ_succ {fr : List Nat} {fw fn : Bool} {i j l : Nat} (h : fr[j]? = some l) : usedJ fr fw fn i (j + 1) = (usedJ fr fw fn i j || l == i) := by
  unfold usedJ
  rw [List.take_add_one, h, Option.toList_some]
  simp only [List.contains_eq_any_beq, List.any_append, List.any_cons, List.any_nil, Bool.or_false, Bool.or_assoc]
  rw [show (i == l) = (l == i) from BEq.comm]
end Ord

theorem fld_idx64 (x : RO) (i : Nat) (hi : i < 3) (w : World) : (Instr.index 175 (.agg #[.int .i64 x.a, .int .i64 x.b, .int .i64 x.c]) (.int .i64 (i : Int))).run Try.prog w = .ok (.int .i64 (Ord.fld x i)) w := by
  rcases (by omega : i = 0 ∨ i = 1 ∨ i = 2) with rfl | rfl | rfl <;> kernel_rfl

set_option maxHeartbeats 6400000 in
set_option maxRecDepth 100000 in
theorem idle_any (fr : List Nat) (fw : Bool) (fl fh : Int) (fn fk : Bool) (fe : Int) (x : RO) (w : World) (hro : ∀ i ∈ fr, i < 3) (hxi : I64 x.a ∧ I64 x.b ∧ I64 x.c) : Calls Try.prog 149 #[.agg #[.string (Ord.lets fr), .bool fw, .int .i64 fl, .int .i64 fh, .bool fn, .bool fk, .int .i64 fe], .agg #[.int .i64 x.op, .int .i64 x.a, .int .i64 x.b, .int .i64 x.c, .int .i64 x.n, .int .i64 x.exit, .int .i64 x.k.1, .int .i64 x.k.2]] w fun e w' => ∃ (A : Option Addr) (c m : Nat), e = .returned (.slice A m c) ∧ (Ord.idle ⟨fr, fw, fl, fh, fn, fk, fe⟩ x).length = m ∧ Own w' w.heap.size 3 A c (Ord.idle ⟨fr, fw, fl, fh, fn, fk, fe⟩ x) ∧ Below w.heap.size w w' := by
  obtain ⟨F, hF⟩ : ∃ F : Ord.Form, ⟨fr, fw, fl, fh, fn, fk, fe⟩ = F := ⟨_, rfl⟩
  rw [hF]
  have HFF := Lib.hid hF; clear hF
  obtain ⟨i0, hi, hz0, hz1, hz2⟩ := info_parts infoInt
  have HI := Lib.hid (And.intro (fld_ok x hxi) hro); clear hxi hro
  have HS := Lib.hid (Ord.lets_size fr)
  go_enter Try.func149, Try.ntmps149
  go_wp2_with fail
  go_loopg [5, 18] 3 (fun gk ov iv wr => ∃ (k m : Nat) (A : Option Addr) (c : Nat), k ≤ 3 ∧ gk = 3 - k ∧ iv = .int .i64 k ∧ ov = .slice A m c ∧ m ≤ k ∧ Hid (Own wr w.heap.size 3 A c (Ord.idleK F x k) ∧ (Ord.idleK F x k).length = m ∧ Blk wr w.heap.size 197 #[.string (Ord.lets fr), .bool fw, .int .i64 fl, .int .i64 fh, .bool fn, .bool fk, .int .i64 fe]) ∧ Below w.heap.size w wr ∧ w.heap.size < wr.heap.size)
  case atStart => exact ⟨0, 0, none, 0, by omega, rfl, rfl, rfl, Nat.le_refl _, ⟨Own.nil_, rfl, (Blk.new w _ _).alloc _⟩, ((Below.refl _ _).alloc (Nat.le_refl _) _).alloc (by simp) _, by simp; omega⟩
  case round =>
    obtain ⟨k, m, A, c, hk, rfl, rfl, rfl, hmk, hkeep, hbl, hs⟩ := hrel
    by_cases hlt : k < 3
    · have hix := fld_idx64 x k hlt wr
      have hyi : I64 (Ord.fld x k) := HI.out.1 k
      obtain ⟨y, hy⟩ : ∃ y, Ord.fld x k = y := ⟨_, rfl⟩
      rw [hy] at hix hyi
      have q0 := hkeep.out.2.2.cell 0 (v := .string (Ord.lets fr)) rfl
      have q1 := hkeep.out.2.2.cell 1 (v := .bool fw) rfl
      have q4 := hkeep.out.2.2.cell 4 (v := .bool fn) rfl
      have hk0 : (0 : Int) ≤ (k : Int) := by omega
      have hk1 : (k : Int) < 3 := by omega
      have HK := Lib.hid (And.intro hkeep.out (And.intro hyi hy)); clear hkeep hyi hy
      obtain ⟨b0, hb0⟩ : ∃ b : Bool, ((k : Int) == 0) = b := ⟨_, rfl⟩
      obtain ⟨b1, hb1⟩ : ∃ b : Bool, ((k : Int) == 1) = b := ⟨_, rfl⟩
      obtain ⟨bs, hbs⟩ : ∃ bs : Bool, (fw && b0 || fn && b1) = bs := ⟨_, rfl⟩
      have hbase : Ord.usedJ fr fw fn k 0 = bs := by
        rw [← hbs, ← hb0, ← hb1]
        simp only [Ord.usedJ, List.take_zero, List.contains_nil, Bool.or_false]
        rw [show ((k : Int) == 0) = (k == 0) from by rw [Bool.eq_iff_iff]; simp, show ((k : Int) == 1) = (k == 1) from by rw [Bool.eq_iff_iff]; simp; omega]
      obtain ⟨U, hU⟩ : ∃ U : Nat → Bool, Ord.usedJ fr fw fn k = U := ⟨_, rfl⟩
      have hsuc : ∀ j l, fr[j]? = some l → U (j + 1) = (U j || l == k) := fun j l h => by rw [← hU]; exact Ord.usedJ_succ h
      have hend : U fr.length = Ord.used F k := by rw [← hU, ← HFF.out]; exact Ord.usedJ_end (Nat.le_refl _) fl fh fe fk
      have hnext := Ord.idleK_succ F x k
      rw [← hend] at hnext
      rw [hU] at hbase
      have HB := Lib.hid (And.intro hbase (And.intro hsuc hnext)); clear hbase hsuc hnext hend hU
      cases fw <;> cases fn <;> cases b0 <;> cases b1 <;> simp only [Bool.and_true, Bool.and_false, Bool.true_and, Bool.false_and, Bool.or_true, Bool.or_false, Bool.true_or, Bool.false_or] at hbs <;>
      · subst hbs
        obtain ⟨wo, hwo⟩ : ∃ wo : World, wo = wr := ⟨_, rfl⟩
        rw [← hwo] at HK hbl hs hix q0 q1 q4 ⊢
        clear hwo
        go_wp2_with fail
        clear hix q0 q1 q4
        go_loopg [8] fr.length (fun gj uv wj => ∃ (j : Nat) (u : Bool), j ≤ fr.length ∧ gj = fr.length - j ∧ uv = .bool u ∧ Hid (U j = u ∧ wj.heap[wo.heap.size]? = some (.stringIter (Ord.lets fr) j)) ∧ Below wo.heap.size wo wj ∧ wo.heap.size < wj.heap.size)
        case atStart => exact ⟨0, _, Nat.zero_le _, rfl, rfl, ⟨HB.out.1, World.iter_heap wo _ 0⟩, (Below.refl _ _).alloc (Nat.le_refl _) _, by simp [World.iter]⟩
        case round =>
          obtain ⟨j, u, hj, rfl, rfl, hkeep, hblj, hsj⟩ := hrel
          have hss := HS.out
          by_cases hjt : j < fr.length
          · obtain ⟨i, hi3⟩ : ∃ i, fr[j]? = some i := ⟨_, List.getElem?_eq_getElem hjt⟩
            have hi4 := HI.out.2 i (List.mem_of_getElem? hi3)
            have hnx := fun ty => Lib.run_next_ascii_at (P := Try.prog) wr wo.heap.size (Ord.lets fr) j ty hkeep.out.2 (by omega) (by rw [Ord.lets_get hi3 hi4]; omega)
            rw [Ord.lets_get hi3 hi4] at hnx
            have j4 := Lib.iterAt_heap wr wo.heap.size (Ord.lets fr) j (j + 1) hkeep.out.2
            have j5 := Lib.below_iterAt hblj (k := wo.heap.size) (Nat.le_refl _) (Ord.lets fr) (j + 1)
            have j6 : wo.heap.size < (wr.iterAt wo.heap.size (Ord.lets fr) (j + 1)).heap.size := by rw [Lib.iterAt_size]; exact hsj
            obtain ⟨V, hV⟩ : ∃ V, wr.iterAt wo.heap.size (Ord.lets fr) (j + 1) = V := ⟨_, rfl⟩
            rw [hV] at hnx j4 j5 j6
            have hsu := HB.out.2.1 j i hi3
            rw [hkeep.out.1] at hsu
            have HJ := Lib.hid (And.intro j4 hsu); clear hkeep j4 hsu hi3 hV hss
            cases u with
            | true =>
              go_wp2_with fail
              go_roundg (fr.length - (j + 1))
              case measure => omega
              case rel => exact ⟨j + 1, true, by omega, rfl, rfl, ⟨by rw [HJ.out.2]; rfl, HJ.out.1⟩, j5, j6⟩
            | false =>
              go_wp2_with fail
              go_roundg (fr.length - (j + 1))
              case measure => omega
              case rel => exact ⟨j + 1, i == k, by omega, rfl, by congr 1; rw [Bool.eq_iff_iff]; simp; omega, ⟨by rw [HJ.out.2]; rfl, HJ.out.1⟩, j5, j6⟩
          · have hnx := fun ty => Lib.run_next_end_at (P := Try.prog) wr wo.heap.size (Ord.lets fr) j ty hkeep.out.2 (by omega)
            obtain rfl : fr.length = j := by omega
            have hbw : Below w.heap.size w wr := hbl.trans (hblj.mono (by omega))
            have hkk := HB.out.2.2
            rw [hkeep.out.1] at hkk
            have HE := Lib.hid (And.intro hkk (And.intro (HK.out.1.1.fresh hblj) (HK.out.1.2.2.fresh hblj))); clear hkk hkeep hss
            have hsz := hblj.size
            cases u with
            | true =>
              go_wp2_with fail
              go_roundg (3 - (k + 1))
              case measure => omega
              case rel => exact ⟨k + 1, m, A, c, by omega, rfl, by go_num, rfl, by omega, ⟨by rw [HE.out.1]; simpa using HE.out.2.1, by rw [HE.out.1]; simpa using HK.out.1.2.1, HE.out.2.2⟩, hbw, by omega⟩
            | false =>
              go_wp2_with (at_builtin; go_must (refine wpList_app (α := Int) (n := m) (m := 1) (B := wr.heap.size + 1) (r := [y]) rfl (.tmp 52) (.tmp 54) _ rfl w.heap.size 3 i0 _ 8 Try.underlying40 hi hz0 hz1 hz2 rfl (by decide) int_one (by rfl) HK.out.1.2.1 (HE.out.2.1.alloc _) (by rfl) (At.built wr _ _ [y] rfl (by intro u hu; simp at hu; subst hu; exact HK.out.2.1)) rfl (by omega) (by simp only [maxLen]; omega) (by simp; omega) ?_))
              intro A5 c5 w5 ho5 hgr5 hat5
              have hs5 := hgr5.size
              simp only [World.size_alloc] at hs5
              have hb5 : Below w.heap.size w w5 := (hbw.alloc (by omega) _).grown hgr5 (by simp; omega) (fun g hg => (HE.out.2.1.lt g hg).1)
              have l5 := ((HE.out.2.2).alloc (.cells #[.int .i64 y] 3)).grown hgr5 (own_ne_ty (HE.out.2.1.alloc (.cells #[.int .i64 y] 3)) (HE.out.2.2.alloc (.cells #[.int .i64 y] 3)) (by decide))
              have H5 := Lib.hid (And.intro ho5 l5); clear ho5 l5 hgr5 hat5
              go_wp2_with fail
              go_roundg (3 - (k + 1))
              case measure => omega
              case rel => exact ⟨k + 1, m + 1, A5, c5, by omega, rfl, by go_num, rfl, by omega, ⟨by rw [HE.out.1]; simpa [HK.out.2.2] using H5.out.1, by rw [HE.out.1]; simpa using HK.out.1.2.1, H5.out.2⟩, hb5, by omega⟩
    · obtain rfl : k = 3 := by omega
      have hk2 := hkeep.out
      rw [Ord.idleK_three] at hk2
      have HK := Lib.hid hk2; clear hk2 hkeep
      go_wp2_with fail
      go_ret
      exact ⟨A, c, m, rfl, HK.out.2.1, HK.out.1, hbl⟩

end Go.Proofs.Ytljdnadejmkaeaa

/- nanbox.Box, in a seat without the reference's box (lines of Nan1, Nan2). -/
namespace Go.Proofs.Ytljdnadejmkaeaa
open Go.RowKit

/-- are a float's bits no number's? -/
def spo (w : Int) : Bool := decide (9218868437227405312 < w % 9223372036854775808)

theorem wraps64 (n : Int) (h₀ : 0 ≤ n) (h₁ : n < 2 ^ 64) : IntKind.u64.wrap n = n := by rw [IntKind.wrap_u64]; omega
theorem mask63 (x : Int) (h₀ : 0 ≤ x) (h₁ : x ≤ 18446744073709551615) : bits .and .u64 x 9223372036854775807 = x % 9223372036854775808 :=
  bits_mask .u64 64 (by decide) wraps64 63 (by decide) x h₀ (by omega)
theorem join48 (t y : Int) (h0 : 0 ≤ t) (h1 : t ≤ 65535) (y0 : 0 ≤ y) (y1 : y < 281474976710656) : bits .or .u64 (t * 281474976710656) y = t * 281474976710656 + y :=
  bits_join .u64 64 (by decide) wraps64 48 _ y (by omega) (by omega) (by omega) y0 (by omega) (by omega)

theorem spoilt_any (x : Int) (w : World) (hx : 0 ≤ x ∧ x ≤ 18446744073709551615) : Calls Try.prog 152 #[.int .u64 x] w fun e w' => e = .returned (.bool (spo x)) ∧ w' = w := by
  go_enter Try.func152, Try.ntmps152
  go_wp2
  go_ret
  exact ⟨ret_bool (by rw [mask63 x hx.1 hx.2]; rfl), rfl⟩
/-- a kind's tag, from the first one on -/
def tagL (k : Int) : Int := 65529 + (if 3 < k then k - 1 else k)
theorem tag_any (k : Int) (w : World) (hk : 0 ≤ k ∧ k ≤ 6) : Calls Try.prog 154 #[.int .i64 k] w fun e w' => e = .returned (.int .u64 (tagL k * 281474976710656)) ∧ w' = w := by
  unfold tagL
  by_cases h : 3 < k
  · rw [if_pos h]
    go_enter Try.func154, Try.ntmps154
    go_wp2
    go_ret
    exact ⟨rfl, rfl⟩
  · rw [if_neg h]
    go_enter Try.func154, Try.ntmps154
    go_wp2
    go_ret
    exact ⟨rfl, rfl⟩
def lowk (k : Int) : Int := if k = 2 then -2147483648 else 0
def highk (k : Int) : Int := if k = 0 then 0 else if k = 1 then 1 else if k = 2 then 2147483647 else 4294967295
/-- the box of a value, and the error's number -/
def boxL (k n : Int) : Int × Int :=
  if k < 0 ∨ 6 < k then (0, 7)
  else if k = 3 then (if spo (n % 18446744073709551616) then (9221120237041090561, 0) else (n % 18446744073709551616, 0))
  else if n < lowk k ∨ highk k < n then (0, 1) else (tagL k * 281474976710656 + n % 4294967296, 0)

theorem bounds_any (k : Int) (w : World) (hk : 0 ≤ k ∧ k ≤ 6) : Calls Try.prog 153 #[.int .i64 k] w fun e w' => e = .returned (.tuple #[.int .i64 (lowk k), .int .i64 (highk k)]) ∧ w' = w := by
  rcases (by omega : k = 0 ∨ k = 1 ∨ k = 2 ∨ (k ≠ 0 ∧ k ≠ 1 ∧ k ≠ 2)) with rfl | rfl | rfl | ⟨h0, h1, h2⟩
  · go_enter Try.func153, Try.ntmps153
    go_wp2
    go_ret2
    exact ⟨rfl, rfl⟩
  · go_enter Try.func153, Try.ntmps153
    go_wp2
    go_ret2
    exact ⟨rfl, rfl⟩
  · go_enter Try.func153, Try.ntmps153
    go_wp2
    go_ret2
    exact ⟨rfl, rfl⟩
  · have hl : lowk k = 0 := by simp [lowk, h2]
    have hh : highk k = 4294967295 := by simp [highk, h0, h1, h2]
    rw [hl, hh]
    clear hl hh
    go_enter Try.func153, Try.ntmps153
    go_wp2
    go_ret2
    exact ⟨rfl, rfl⟩

def BoxPost (k n : Int) (w : World) (e : Ending) (w' : World) : Prop := e = .returned (.tuple #[.int .u64 (boxL k n).1, .int .i64 (boxL k n).2]) ∧ Below w.heap.size w w'
theorem box_is {k n x y : Int} {w w' : World} (h : boxL k n = (x, y)) (hb : Below w.heap.size w w') : BoxPost k n w (.returned (.tuple #[.int .u64 x, .int .i64 y])) w' := ⟨by rw [h], hb⟩

set_option maxRecDepth 100000 in
theorem box_any (k n : Int) (w : World) (hk : I64 k) (hn : I64 n) : Calls Try.prog 148 #[.agg #[.int .i64 k, .int .i64 n]] w (BoxPost k n w) := by
  have hbl : Below w.heap.size w (w.alloc (.cells #[.int .i64 k, .int .i64 n] 23)) := (Below.refl _ _).alloc (Nat.le_refl _) _
  by_cases h0 : k < 0
  · have hbx := box_is (w := w) (by unfold boxL; rw [if_pos (.inl h0)] : boxL k n = (0, 7)) hbl
    have HB := Lib.hid hbx; clear hbx hbl
    go_enter Try.func148, Try.ntmps148
    go_wp2
    go_ret2
    exact HB.out
  by_cases h6 : 6 < k
  · have hbx := box_is (w := w) (by unfold boxL; rw [if_pos (.inr h6)] : boxL k n = (0, 7)) hbl
    have HB := Lib.hid hbx; clear hbx hbl
    go_enter Try.func148, Try.ntmps148
    go_wp2
    go_ret2
    exact HB.out
  have hk6 : ¬ (k < 0 ∨ 6 < k) := by omega
  by_cases h3 : k = 3
  · subst h3
    have hu : IntKind.u64.wrap n = n % 18446744073709551616 := IntKind.wrap_u64 n
    have hm : 0 ≤ n % 18446744073709551616 ∧ n % 18446744073709551616 ≤ 18446744073709551615 := by omega
    by_cases hs : spo (n % 18446744073709551616) = true
    · have hbx := box_is (w := w) (by unfold boxL; rw [if_neg hk6, if_pos rfl, if_pos hs] : boxL 3 n = (9221120237041090561, 0)) hbl
      have HB := Lib.hid hbx; clear hbx hbl
      have HS := Lib.hid hs; clear hs
      go_enter Try.func148, Try.ntmps148
      go_wp2_with fail
      refine (spoilt_any _ _ hm).mono ?_
      rintro e w' ⟨rfl, rfl⟩
      rw [HS.out]
      go_wp2_with fail
      go_ret2
      exact HB.out
    · have hbx := box_is (w := w) (by unfold boxL; rw [if_neg hk6, if_pos rfl, if_neg hs] : boxL 3 n = (n % 18446744073709551616, 0)) hbl
      have HB := Lib.hid hbx; clear hbx hbl
      have HS := Lib.hid (by simpa using hs : spo (n % 18446744073709551616) = false); clear hs
      go_enter Try.func148, Try.ntmps148
      go_wp2_with fail
      refine (spoilt_any _ _ hm).mono ?_
      rintro e w' ⟨rfl, rfl⟩
      rw [HS.out]
      go_wp2_with fail
      go_ret2
      exact HB.out
  have hk06 : 0 ≤ k ∧ k ≤ 6 := by omega
  by_cases hlo : n < lowk k
  · have hbx := box_is (w := w) (by unfold boxL; rw [if_neg hk6, if_neg h3, if_pos (.inl hlo)] : boxL k n = (0, 1)) hbl
    have HB := Lib.hid hbx; clear hbx hbl
    have H6 := Lib.hid hk6; clear hk6
    go_enter Try.func148, Try.ntmps148
    go_wp2_with fail
    refine (bounds_any k _ hk06).mono ?_
    rintro e w' ⟨rfl, rfl⟩
    go_wp2_with fail
    go_ret2
    exact HB.out
  by_cases hhi : highk k < n
  · have hbx := box_is (w := w) (by unfold boxL; rw [if_neg hk6, if_neg h3, if_pos (.inr hhi)] : boxL k n = (0, 1)) hbl
    have HB := Lib.hid hbx; clear hbx hbl
    have H6 := Lib.hid hk6; clear hk6
    go_enter Try.func148, Try.ntmps148
    go_wp2_with fail
    refine (bounds_any k _ hk06).mono ?_
    rintro e w' ⟨rfl, rfl⟩
    go_wp2_with fail
    go_ret2
    exact HB.out
  have hbx : boxL k n = (tagL k * 281474976710656 + n % 4294967296, 0) := by unfold boxL; rw [if_neg hk6, if_neg h3, if_neg (by omega)]
  have HBX := Lib.hid hbx; clear hbx
  have H6 := Lib.hid hk6; clear hk6
  have ht : 65529 ≤ tagL k ∧ tagL k ≤ 65534 := by unfold tagL; split <;> omega
  have hor := join48 (tagL k) (n % 4294967296) (by omega) (by omega) (by omega) (by omega)
  have hcv : IntKind.u32.wrap n = n % 4294967296 := IntKind.wrap_u32 n
  have HBL := Lib.hid hbl; clear hbl
  go_enter Try.func148, Try.ntmps148
  go_wp2_with fail
  refine (bounds_any k _ hk06).mono ?_
  rintro e w' ⟨rfl, rfl⟩
  go_wp2_with fail
  go_quiet ((go_at_call 154; refine Calls.quiet_of_same (tag_any k _ hk06)))
  go_wp2_with fail
  go_ret2
  exact box_is HBX.out (below_drewN HBL.out _)


end Go.Proofs.Ytljdnadejmkaeaa

/-
  slices.IndexFunc, slices.ContainsFunc at structs of two ints, whatever predicate is handed in that lays only blocks of its own.
-/
namespace Go.Proofs.Ytljdnadejmkaeaa
open Go.RowKit

/-- the first place at which p holds, or -1 -/
def idxI {α : Type} (p : α → Bool) (l : List α) : Int := if l.any p then (l.findIdx p : Int) else -1

theorem idxI_hit {α : Type} (p : α → Bool) (l : List α) (k : Nat) (x : α) (h : l[k]? = some x) (hp : p x = true) (hno : (l.take k).any p = false) : idxI p l = (k : Int) := by
  have hk : k < l.length := (List.getElem?_eq_some_iff.1 h).1
  have hany : l.any p = true := List.any_eq_true.2 ⟨x, List.mem_of_getElem? h, hp⟩
  have hf : l.findIdx p = k := by
    rw [List.findIdx_eq hk]
    refine ⟨by rw [List.getElem?_eq_getElem hk] at h; rw [Option.some.inj h]; exact hp, fun j hj => ?_⟩
    have := List.any_eq_false.1 hno (l[j]'(by omega)) (by
      rw [List.mem_take_iff_getElem]; exact ⟨j, by omega, rfl⟩)
    simpa using this
  unfold idxI
  rw [if_pos hany, hf]
theorem any_snoc {α : Type} (p : α → Bool) (l : List α) (k : Nat) (x : α) (h : l[k]? = some x) : (l.take (k + 1)).any p = ((l.take k).any p || p x) := by
  rw [List.take_add_one, h]; simp [List.any_append]

def PredP (P : Program) (g : Nat) (lb : Array Value) (p : Int × Int → Bool) (l : List (Int × Int)) (w : World) : Prop :=
  ∀ (W : World) (x : Int × Int), x ∈ l → Flat.ok x → Below w.heap.size w W → Calls P g (#[.agg #[.int .i64 x.1, .int .i64 x.2]] ++ lb) W fun e W' => e = .returned (.bool (p x)) ∧ Below W.heap.size W W'

set_option maxHeartbeats 800000 in
set_option maxRecDepth 100000 in
theorem indexFuncRMove_any (A : Option Addr) (c B g : Nat) (lb : Array Value) (p : Int × Int → Bool) (l : List (Int × Int)) (w : World) (h : At w B A l) (hB : B ≤ w.heap.size) (hl : l.length ≤ 9223372036854775807)
    (eg : ∀ args w, (callFunc g args).run Try.prog w = .ok (.enter g args) w) (hp : PredP Try.prog g lb p l w) :
    Calls Try.prog 105 #[.slice A l.length c, .func (.func g) #[] lb] w fun e w' => e = .returned (.int .i64 (idxI p l)) ∧ Below w.heap.size w w' := by
  have H := Lib.hid h; clear h
  have HP := Lib.hid hp; clear hp
  go_enter Try.func105, Try.ntmps105
  go_wp2
  go_loopw [8] (fun i wr => ∃ k : Nat, k ≤ l.length ∧ i = .int .i64 k ∧ Hid ((l.take k).any p = false) ∧ Below w.heap.size w wr) (fun i _ => l.length - (intOf i).toNat)
  case atStart => exact ⟨0, Nat.zero_le _, rfl, by simp [Hid], Below.refl _ _⟩
  case round =>
    obtain ⟨k, hk, rfl, hno, hbl⟩ := hrel
    have hsz := hbl.size
    by_cases hlt : k < l.length
    · obtain ⟨b, o, x, y, rfl, hb, hx, hox, hoy, h0, h1⟩ := (H.out.below (hbl.mono hB)).pair hlt
      have hk0 : (0 : Int) ≤ (k : Int) := by omega
      have hk1 : (k : Int) < (l.length : Int) := by omega
      have hcall := HP.out wr (x, y) (List.mem_of_getElem? hx) ⟨hox, hoy⟩ hbl
      have HX := Lib.hid hx; clear hx
      cases hq : p (x, y) with
      | true =>
        rw [hq] at hcall
        have HC := Lib.hid hcall; clear hcall
        have HQ := Lib.hid hq; clear hq
        go_wp2_with (go_at_fn g; refine HC.out.mono ?_; rintro e w' ⟨rfl, hb'⟩)
        go_ret
        exact ⟨by rw [idxI_hit p l k (x, y) HX.out HQ.out hno.out]; rfl, hbl.trans (hb'.mono hsz)⟩
      | false =>
        rw [hq] at hcall
        have HC := Lib.hid hcall; clear hcall
        have HQ := Lib.hid hq; clear hq
        go_wp2_with (go_at_fn g; refine HC.out.mono ?_; rintro e w' ⟨rfl, hb'⟩)
        go_roundw
        case rel => exact ⟨k + 1, by omega, by go_num, by unfold Hid; rw [any_snoc _ _ _ _ HX.out, hno.out, HQ.out]; rfl, hbl.trans (hb'.mono hsz)⟩
        case measure => simp [intOf]; omega
    · go_wp2
      go_ret
      exact ⟨by have h1 := hno.out; rw [List.take_of_length_le (by omega)] at h1; unfold idxI; rw [h1]; rfl, hbl⟩

theorem containsFuncRMove_any (A : Option Addr) (c B g : Nat) (lb : Array Value) (p : Int × Int → Bool) (l : List (Int × Int)) (w : World) (h : At w B A l) (hB : B ≤ w.heap.size) (hl : l.length ≤ 9223372036854775807)
    (eg : ∀ args w, (callFunc g args).run Try.prog w = .ok (.enter g args) w) (hp : PredP Try.prog g lb p l w) :
    Calls Try.prog 102 #[.slice A l.length c, .func (.func g) #[] lb] w fun e w' => e = .returned (.bool (l.any p)) ∧ Below w.heap.size w w' := by
  have HC := Lib.hid (indexFuncRMove_any A c B g lb p l w h hB hl eg hp)
  clear h hp eg
  cases hq : l.any p with
  | true =>
    have hi : idxI p l = (l.findIdx p : Int) := by unfold idxI; rw [if_pos hq]
    rw [hi] at HC
    go_enter Try.func102, Try.ntmps102
    go_wp2_with (go_at_call 105; refine HC.out.mono ?_; rintro e w' ⟨rfl, hb'⟩)
    go_ret
    exact ⟨ret_bool (by simp), hb'⟩
  | false =>
    have hi : idxI p l = -1 := by unfold idxI; rw [hq]; rfl
    rw [hi] at HC
    go_enter Try.func102, Try.ntmps102
    go_wp2_with (go_at_call 105; refine HC.out.mono ?_; rintro e w' ⟨rfl, hb'⟩)
    go_ret
    exact ⟨ret_bool (by simp), hb'⟩

end Go.Proofs.Ytljdnadejmkaeaa

/- live: how many spans go over a place; the most. -/
namespace Go.Proofs.Ytljdnadejmkaeaa
open Go.RowKit

namespace Liv
def counts (s : Int × Int) : Bool := decide (0 ≤ s.1) && decide (s.1 < s.2)
def overs (p : Int) (s : Int × Int) : Bool := counts s && decide (s.1 ≤ p) && decide (p < s.2)
def over (l : List (Int × Int)) (p : Int) : Nat := l.countP (overs p)
def most (l r : List (Int × Int)) : Nat := r.foldl (fun m s => if counts s = true then max m (over l s.1) else m) 0
theorem over_snoc (l : List (Int × Int)) (p : Int) (k : Nat) (x : Int × Int) (h : l[k]? = some x) : over (l.take (k + 1)) p = over (l.take k) p + if overs p x = true then 1 else 0 := by
  rw [List.take_add_one, h]; unfold over; rw [List.countP_append]; simp [List.countP_cons]
theorem most_snoc (l r : List (Int × Int)) (k : Nat) (x : Int × Int) (h : r[k]? = some x) : most l (r.take (k + 1)) = if counts x = true then max (most l (r.take k)) (over l x.1) else most l (r.take k) := by
  rw [List.take_add_one, h]; unfold most; rw [List.foldl_append]; rfl
theorem over_le (l : List (Int × Int)) (p : Int) : over l p ≤ l.length := List.countP_le_length
theorem most_le (l r : List (Int × Int)) : most l r ≤ l.length := by
  have : ∀ (r : List (Int × Int)) (m : Nat), m ≤ l.length → r.foldl (fun m s => if counts s = true then max m (over l s.1) else m) m ≤ l.length := by
    intro r
    induction r with
    | nil => intro m h; exact h
    | cons s r ih =>
      intro m h
      rw [List.foldl_cons]
      refine ih _ ?_
      split
      · have := over_le l s.1; omega
      · exact h
  exact this r 0 (Nat.zero_le _)
end Liv

theorem counts_any (x y : Int) (w : World) : Calls Try.prog 40 #[.agg #[.int .i64 x, .int .i64 y]] w fun e w' => e = .returned (.bool (Liv.counts (x, y))) ∧ Below w.heap.size w w' := by
  obtain ⟨q, hq⟩ : ∃ q, Liv.counts (x, y) = q := ⟨_, rfl⟩
  rw [hq]
  by_cases h0 : 0 ≤ x
  · by_cases h1 : x < y
    · have : q = true := by rw [← hq]; simp [Liv.counts, h0, h1]
      clear hq; subst this
      go_enter Try.func40, Try.ntmps40
      go_wp2_with fail
      go_ret
      exact ⟨rfl, (Below.refl _ _).alloc (Nat.le_refl _) _⟩
    · have : q = false := by rw [← hq]; simp [Liv.counts, h1]
      clear hq; subst this
      go_enter Try.func40, Try.ntmps40
      go_wp2_with fail
      go_ret
      exact ⟨rfl, (Below.refl _ _).alloc (Nat.le_refl _) _⟩
  · have : q = false := by rw [← hq]; simp [Liv.counts, h0]
    clear hq; subst this
    go_enter Try.func40, Try.ntmps40
    go_wp2_with fail
    go_ret
    exact ⟨rfl, (Below.refl _ _).alloc (Nat.le_refl _) _⟩

set_option maxRecDepth 100000 in
theorem over_any (B c n : Nat) (A : Option Addr) (p : Int) (l : List (Int × Int)) (w : World) (hn : l.length = n) (h : At w B A l) (hB : B ≤ w.heap.size) (hl : n ≤ 100000) :
    Calls Try.prog 75 #[.slice A n c, .int .i64 p] w fun e w' => e = .returned (.int .i64 (Liv.over l p : Nat)) ∧ Below w.heap.size w w' := by
  have H := Lib.hid (And.intro h hn); clear h hn
  go_enter Try.func75, Try.ntmps75
  go_wp2_with fail
  go_loopg [5, 10] (n) (fun gk mv iv wr => ∃ (k m : Nat), k ≤ n ∧ gk = n - k ∧ iv = .int .i64 k ∧ mv = .int .i64 m ∧ m ≤ k ∧ Hid (m = Liv.over (l.take k) p) ∧ Below w.heap.size w wr ∧ w.heap.size ≤ wr.heap.size)
  case atStart => exact ⟨0, 0, Nat.zero_le _, rfl, rfl, rfl, Nat.le_refl _, rfl, Below.refl _ _, Nat.le_refl _⟩
  case round =>
    obtain ⟨k, m, hk, rfl, rfl, rfl, hmk, hkeep, hbl, hsz⟩ := hrel
    by_cases hlt : k < n
    · obtain ⟨b, o, x, y, rfl, hb, hx, hox, hoy, d0, d1⟩ := (H.out.1.below (hbl.mono hB)).pair (by have := H.out.2; omega : k < l.length)
      have hsn := Liv.over_snoc l p k _ hx
      have HX := Lib.hid hsn; clear hsn hx hox hoy
      go_wp2_with fail
      refine calls_world (fun W => Blk W wr.heap.size 78 #[.int .i64 x, .int .i64 y] ∧ Below wr.heap.size wr W ∧ wr.heap.size + 1 ≤ W.heap.size) ⟨Blk.new _ _ _, (Below.refl _ _).alloc (Nat.le_refl _) _, by simp⟩ ?_
      rintro W ⟨hG, hbW, hsW⟩
      refine (counts_any x y W).mono ?_
      rintro e w2 ⟨rfl, hb2⟩
      have hs2 := hb2.size
      have hG2 := hG.fresh hb2
      have g0 := hG2.cell 0 (v := .int .i64 x) rfl
      have g1 := hG2.cell 1 (v := .int .i64 y) rfl
      have hbl2 : Below w.heap.size w w2 := hbl.trans ((hbW.trans (hb2.mono (by omega))).mono hsz)
      have lt2 : wr.heap.size < w2.heap.size := by omega
      have hs3 : w.heap.size ≤ w2.heap.size := by omega
      have hwr : IntKind.i64.wrap ((m : Int) + 1) = (m : Int) + 1 := IntWalk.i64_in _ (by omega)
      clear hG hG2 d0 d1
      cases hc : Liv.counts (x, y) with
      | false =>
        have hov : Liv.overs p (x, y) = false := by unfold Liv.overs; rw [hc]; rfl
        have HO := Lib.hid (And.intro hkeep.out hov); clear hov hc hkeep
        go_wp2_with fail
        go_roundg (n - (k + 1))
        case measure => omega
        case rel => exact ⟨k + 1, m, by omega, rfl, by go_num, rfl, by omega, by unfold Hid; rw [HX.out, HO.out.2, ← HO.out.1]; rfl, hbl2, hs3⟩
      | true =>
        by_cases h1 : x ≤ p
        · by_cases h2 : p < y
          · have hov : Liv.overs p (x, y) = true := by unfold Liv.overs; rw [hc]; simp [h1, h2]
            have HO := Lib.hid (And.intro hkeep.out hov); clear hov hc hkeep
            go_wp2_with fail
            go_roundg (n - (k + 1))
            case measure => omega
            case rel => exact ⟨k + 1, m + 1, by omega, rfl, by go_num, by simp, by omega, by unfold Hid; rw [HX.out, HO.out.2, ← HO.out.1]; rfl, hbl2, hs3⟩
          · have hov : Liv.overs p (x, y) = false := by unfold Liv.overs; simp [h2]
            have HO := Lib.hid (And.intro hkeep.out hov); clear hov hc hkeep
            go_wp2_with fail
            go_roundg (n - (k + 1))
            case measure => omega
            case rel => exact ⟨k + 1, m, by omega, rfl, by go_num, rfl, by omega, by unfold Hid; rw [HX.out, HO.out.2, ← HO.out.1]; rfl, hbl2, hs3⟩
        · have hov : Liv.overs p (x, y) = false := by unfold Liv.overs; simp [h1]
          have HO := Lib.hid (And.intro hkeep.out hov); clear hov hc hkeep
          go_wp2_with fail
          go_roundg (n - (k + 1))
          case measure => omega
          case rel => exact ⟨k + 1, m, by omega, rfl, by go_num, rfl, by omega, by unfold Hid; rw [HX.out, HO.out.2, ← HO.out.1]; rfl, hbl2, hs3⟩
    · have hfin := hkeep.out
      rw [List.take_of_length_le (by have := H.out.2; omega)] at hfin
      have HF := Lib.hid hfin; clear hfin hkeep
      go_wp2_with fail
      go_ret
      exact ⟨by rw [← HF.out]; rfl, hbl⟩

set_option maxRecDepth 100000 in
theorem mostOver_any (B c n : Nat) (A : Option Addr) (l : List (Int × Int)) (w : World) (hn : l.length = n) (h : At w B A l) (hB : B ≤ w.heap.size) (hl : n ≤ 100000) :
    Calls Try.prog 34 #[.slice A n c] w fun e w' => e = .returned (.int .i64 (Liv.most l l : Nat)) ∧ Below w.heap.size w w' := by
  have H := Lib.hid (And.intro h hn); clear h hn
  go_enter Try.func34, Try.ntmps34
  go_wp2_with fail
  go_loopg [3, 8] (n) (fun gk mv iv wr => ∃ (k m : Nat), k ≤ n ∧ gk = n - k ∧ iv = .int .i64 k ∧ mv = .int .i64 m ∧ Hid (m = Liv.most l (l.take k)) ∧ Below w.heap.size w wr ∧ w.heap.size ≤ wr.heap.size)
  case atStart => exact ⟨0, 0, Nat.zero_le _, rfl, rfl, rfl, rfl, Below.refl _ _, Nat.le_refl _⟩
  case round =>
    obtain ⟨k, m, hk, rfl, rfl, rfl, hkeep, hbl, hsz⟩ := hrel
    by_cases hlt : k < n
    · obtain ⟨b, o, x, y, rfl, hb, hx, hox, hoy, d0, d1⟩ := (H.out.1.below (hbl.mono hB)).pair (by have := H.out.2; omega : k < l.length)
      have hsn := Liv.most_snoc l l k _ hx
      have HX := Lib.hid hsn; clear hsn hx hox hoy
      go_wp2_with fail
      refine calls_world (fun W => Blk W wr.heap.size 78 #[.int .i64 x, .int .i64 y] ∧ Below wr.heap.size wr W ∧ wr.heap.size + 1 ≤ W.heap.size) ⟨Blk.new _ _ _, (Below.refl _ _).alloc (Nat.le_refl _) _, by simp⟩ ?_
      rintro W ⟨hG, hbW, hsW⟩
      refine (counts_any x y W).mono ?_
      rintro e w2 ⟨rfl, hb2⟩
      have hs2 := hb2.size
      have hG2 := hG.fresh hb2
      have g0 := hG2.cell 0 (v := .int .i64 x) rfl
      have hbl2 : Below w.heap.size w w2 := hbl.trans ((hbW.trans (hb2.mono (by omega))).mono hsz)
      have lt2 : wr.heap.size < w2.heap.size := by omega
      have hs3 : w.heap.size ≤ w2.heap.size := by omega
      clear hG hG2 d0 d1
      cases hc : Liv.counts (x, y) with
      | false =>
        have hsn := HX.out
        rw [hc, if_neg (by decide), ← hkeep.out] at hsn
        have HO := Lib.hid hsn; clear hsn hc hkeep
        go_wp2_with fail
        go_roundg (n - (k + 1))
        case measure => omega
        case rel => exact ⟨k + 1, m, by omega, rfl, by go_num, rfl, HO.out.symm, hbl2, hs3⟩
      | true =>
        have hsn := HX.out
        rw [hc, if_pos rfl, ← hkeep.out] at hsn
        have hsn2 : max m (Liv.over l x) = Liv.most l (l.take (k + 1)) := hsn.symm
        have HO := Lib.hid hsn2; clear hsn hsn2 hc hkeep
        go_wp2_with fail
        refine (over_any B c n (some ⟨b, o, none⟩) x l w2 H.out.2 (H.out.1.below (hbl2.mono hB)) (by omega) hl).mono ?_
        rintro e w3 ⟨rfl, hb3⟩
        obtain ⟨m2, hm2⟩ : ∃ m2, Liv.over l x = m2 := ⟨_, rfl⟩
        rw [hm2]
        have hmo := HO.out
        rw [hm2] at hmo
        have hs4 := hb3.size
        have hbl3 : Below w.heap.size w w3 := hbl2.trans (hb3.mono hs3)
        have HM := Lib.hid hmo; clear hmo hm2
        by_cases hmm : (m : Int) < (m2 : Int)
        · have hmm2 : (m : Int) ≤ (m2 : Int) := by omega
          have hmm3 : ¬ (m2 : Int) ≤ (m : Int) := by omega
          have hmm4 : ¬ (m2 : Int) < (m : Int) := by omega
          go_wp2_with fail
          go_roundg (n - (k + 1))
          case measure => omega
          case rel => exact ⟨k + 1, m2, by omega, rfl, by go_num, rfl, by unfold Hid; rw [← HM.out]; omega, hbl3, by omega⟩
        · have hmm3 : (m2 : Int) ≤ (m : Int) := by omega
          by_cases hme : (m : Int) = (m2 : Int)
          · have hme2 : m = m2 := by omega
            clear hme hmm hmm3
            subst hme2
            go_wp2_with fail
            go_roundg (n - (k + 1))
            case measure => omega
            case rel => exact ⟨k + 1, m, by omega, rfl, by go_num, rfl, by unfold Hid; rw [← HM.out]; omega, hbl3, by omega⟩
          · have hmm2 : ¬ (m : Int) ≤ (m2 : Int) := by omega
            have hmm4 : (m2 : Int) < (m : Int) := by omega
            clear hme
            go_wp2_with fail
            go_roundg (n - (k + 1))
            case measure => omega
            case rel => exact ⟨k + 1, m, by omega, rfl, by go_num, rfl, by unfold Hid; rw [← HM.out]; omega, hbl3, by omega⟩
    · have hfin := hkeep.out
      rw [List.take_of_length_le (by have := H.out.2; omega)] at hfin
      have HF := Lib.hid hfin; clear hfin hkeep
      go_wp2_with fail
      go_ret
      exact ⟨by rw [← HF.out]; rfl, hbl⟩

set_option maxHeartbeats 1600000 in
set_option maxRecDepth 100000 in
theorem most_any (B c n : Nat) (A : Option Addr) (l : List (Int × Int)) (w : World) (hn : l.length = n) (h : At w B A l) (hB : B ≤ w.heap.size) (hl : n ≤ 100000) :
    Calls Try.prog 33 #[.slice A n c] w fun e w' => e = .returned (.int .i64 (Liv.most l l : Nat)) ∧ Below w.heap.size w w' := by
  have H := Lib.hid (And.intro h hn); clear h hn
  go_enter Try.func33, Try.ntmps33
  go_wp2_with fail
  go_loopg [3, 11] (n) (fun gk mv iv wr => ∃ (k m : Nat), k ≤ n ∧ gk = n - k ∧ iv = .int .i64 k ∧ mv = .int .i64 m ∧ Hid (m = Liv.most l (l.take k)) ∧ Below w.heap.size w wr ∧ w.heap.size ≤ wr.heap.size)
  case atStart => exact ⟨0, 0, Nat.zero_le _, rfl, rfl, rfl, rfl, Below.refl _ _, Nat.le_refl _⟩
  case round =>
    obtain ⟨k, m, hk, rfl, rfl, rfl, hkeep, hbl, hsz⟩ := hrel
    by_cases hlt : k < n
    · obtain ⟨b, o, x, y, rfl, hb, hx, hox, hoy, d0, d1⟩ := (H.out.1.below (hbl.mono hB)).pair (by have := H.out.2; omega : k < l.length)
      have hsn := Liv.most_snoc l l k _ hx
      have HX := Lib.hid hsn; clear hsn hx hox hoy
      by_cases hc : 0 ≤ x ∧ x < y
      · obtain ⟨hc1, hc2⟩ := hc
        have hct : Liv.counts (x, y) = true := by simp [Liv.counts, hc1, hc2]
        have hsn := HX.out
        rw [hct, if_pos rfl, ← hkeep.out] at hsn
        have hsn2 : max m (Liv.over l x) = Liv.most l (l.take (k + 1)) := hsn.symm
        have HO := Lib.hid hsn2; clear hsn hsn2 hct hkeep
        have hcn : ¬ x < 0 := by omega
        have hcm : ¬ y ≤ x := by omega
        go_wp2_with fail
        refine wp_world (fun W => Blk W wr.heap.size 78 #[.int .i64 x, .int .i64 y] ∧ Below wr.heap.size wr W ∧ wr.heap.size + 1 ≤ W.heap.size) ⟨Blk.new _ _ _, (Below.refl _ _).alloc (Nat.le_refl _) _, by simp⟩ ?_
        rintro W ⟨hG, hbW, hsW⟩
        have hblW : Below w.heap.size w W := hbl.trans (hbW.mono hsz)
        obtain ⟨wo, rfl⟩ : ∃ wo : World, wo = wr := ⟨_, rfl⟩
        clear d0 d1
        go_loopg [6, 27] (n) (fun gj mv jv wj => ∃ (j q : Nat), j ≤ n ∧ gj = n - j ∧ jv = .int .i64 j ∧ mv = .int .i64 q ∧ q ≤ j ∧ Hid (q = Liv.over (l.take j) x) ∧ Below w.heap.size w wj ∧ Below (wo.heap.size + 1) W wj ∧ w.heap.size ≤ wj.heap.size ∧ wo.heap.size + 1 ≤ wj.heap.size)
        case atStart => exact ⟨0, 0, Nat.zero_le _, rfl, rfl, rfl, Nat.le_refl _, rfl, hblW, Below.refl _ _, by omega, hsW⟩
        case round =>
          obtain ⟨j, q, hj, rfl, rfl, rfl, hqj, hkeep, hblj, hbWj, hsj, hsj2⟩ := hrel
          have hGj : Blk wr wo.heap.size 78 #[.int .i64 x, .int .i64 y] := (hbWj.block _ (by omega)).trans hG
          have g0 := hGj.cell 0 (v := .int .i64 x) rfl
          have ltj : wo.heap.size < wr.heap.size := by omega
          clear hGj
          by_cases hjt : j < n
          · obtain ⟨b', o', x', y', hA', hb', hx', hox', hoy', d0', d1'⟩ := (H.out.1.below (hblj.mono hB)).pair (by have := H.out.2; omega : j < l.length)
            injection hA' with hA'; injection hA' with hA1 hA2 hA3; subst hA1 hA2
            have hsn' := Liv.over_snoc l x j _ hx'
            have HX' := Lib.hid (And.intro hsn' hkeep.out); clear hsn' hx' hox' hoy' hkeep
            have hwr : IntKind.i64.wrap ((q : Int) + 1) = (q : Int) + 1 := IntWalk.i64_in _ (by omega)
            by_cases h1 : 0 ≤ x'
            · by_cases h2 : x' ≤ x
              · by_cases h3 : x < y'
                · have hov : Liv.overs x (x', y') = true := by unfold Liv.overs Liv.counts; simp [h1, h2, h3]; omega
                  have HO' := Lib.hid hov; clear hov
                  go_wp2_with fail
                  go_roundg (n - (j + 1))
                  case measure => omega
                  case rel => exact ⟨j + 1, q + 1, by omega, rfl, by go_num, by simp, by omega, by unfold Hid; rw [HX'.out.1, HO'.out, ← HX'.out.2]; rfl, hblj.alloc hsj _, hbWj.alloc hsj2 _, by simp; omega, by simp; omega⟩
                · have hov : Liv.overs x (x', y') = false := by unfold Liv.overs; simp [h3]
                  have HO' := Lib.hid hov; clear hov
                  go_wp2_with fail
                  go_roundg (n - (j + 1))
                  case measure => omega
                  case rel => exact ⟨j + 1, q, by omega, rfl, by go_num, rfl, by omega, by unfold Hid; rw [HX'.out.1, HO'.out, ← HX'.out.2]; rfl, hblj.alloc hsj _, hbWj.alloc hsj2 _, by simp; omega, by simp; omega⟩
              · have hov : Liv.overs x (x', y') = false := by unfold Liv.overs; simp [h2]
                have HO' := Lib.hid hov; clear hov
                go_wp2_with fail
                go_roundg (n - (j + 1))
                case measure => omega
                case rel => exact ⟨j + 1, q, by omega, rfl, by go_num, rfl, by omega, by unfold Hid; rw [HX'.out.1, HO'.out, ← HX'.out.2]; rfl, hblj.alloc hsj _, hbWj.alloc hsj2 _, by simp; omega, by simp; omega⟩
            · have hov : Liv.overs x (x', y') = false := by unfold Liv.overs Liv.counts; simp [h1]
              have HO' := Lib.hid hov; clear hov
              go_wp2_with fail
              go_roundg (n - (j + 1))
              case measure => omega
              case rel => exact ⟨j + 1, q, by omega, rfl, by go_num, rfl, by omega, by unfold Hid; rw [HX'.out.1, HO'.out, ← HX'.out.2]; rfl, hblj.alloc hsj _, hbWj.alloc hsj2 _, by simp; omega, by simp; omega⟩
          · have hfin := hkeep.out
            rw [List.take_of_length_le (by have := H.out.2; omega)] at hfin
            have hmo := HO.out
            rw [← hfin] at hmo
            have HM := Lib.hid hmo; clear hmo hfin hkeep
            by_cases hmm : (m : Int) < (q : Int)
            · have hmm2 : (m : Int) ≤ (q : Int) := by omega
              have hmm3 : ¬ (q : Int) ≤ (m : Int) := by omega
              have hmm4 : ¬ (q : Int) < (m : Int) := by omega
              go_wp2_with fail
              go_roundg (n - (k + 1))
              case measure => omega
              case rel => exact ⟨k + 1, q, by omega, rfl, by go_num, rfl, by unfold Hid; rw [← HM.out]; omega, hblj, hsj⟩
            · have hmm3 : (q : Int) ≤ (m : Int) := by omega
              by_cases hme : (m : Int) = (q : Int)
              · have hme2 : m = q := by omega
                clear hme hmm hmm3
                subst hme2
                go_wp2_with fail
                go_roundg (n - (k + 1))
                case measure => omega
                case rel => exact ⟨k + 1, m, by omega, rfl, by go_num, rfl, by unfold Hid; rw [← HM.out]; omega, hblj, hsj⟩
              · have hmm2 : ¬ (m : Int) ≤ (q : Int) := by omega
                have hmm4 : (q : Int) < (m : Int) := by omega
                clear hme
                go_wp2_with fail
                go_roundg (n - (k + 1))
                case measure => omega
                case rel => exact ⟨k + 1, m, by omega, rfl, by go_num, rfl, by unfold Hid; rw [← HM.out]; omega, hblj, hsj⟩
      · have hcf : Liv.counts (x, y) = false := by
          unfold Liv.counts; rw [Bool.and_eq_false_iff]
          by_cases h1 : 0 ≤ x
          · right; simp; omega
          · left; simp; omega
        have hsn := HX.out
        rw [hcf, if_neg (by decide), ← hkeep.out] at hsn
        have HO := Lib.hid hsn; clear hsn hcf hkeep
        by_cases h1 : x < 0
        · clear hc
          go_wp2_with fail
          go_roundg (n - (k + 1))
          case measure => omega
          case rel => exact ⟨k + 1, m, by omega, rfl, by go_num, rfl, HO.out.symm, hbl.alloc hsz _, by simp; omega⟩
        · have h2 : y ≤ x := by omega
          clear hc
          go_wp2_with fail
          go_roundg (n - (k + 1))
          case measure => omega
          case rel => exact ⟨k + 1, m, by omega, rfl, by go_num, rfl, HO.out.symm, hbl.alloc hsz _, by simp; omega⟩
    · have hfin := hkeep.out
      rw [List.take_of_length_le (by have := H.out.2; omega)] at hfin
      have HF := Lib.hid hfin; clear hfin hkeep
      go_wp2_with fail
      go_ret
      exact ⟨by rw [← HF.out]; rfl, hbl⟩

end Go.Proofs.Ytljdnadejmkaeaa

/- ir.of: the table of what an operation has. -/
namespace Go.Proofs.Ytljdnadejmkaeaa
open Go.RowKit

namespace Liv
def asksN (op : Int) : Nat := if op = 14 then 3 else if op = 7 ∨ op = 11 ∨ op = 12 ∨ op = 13 ∨ op = 17 then 2 else if op = 4 ∨ op = 5 ∨ op = 6 ∨ op = 8 ∨ op = 9 ∨ op = 10 ∨ op = 15 then 1 else 0
def tells (op : Int) : Bool := decide (op = 1 ∨ op = 2 ∨ op = 3 ∨ op = 7 ∨ op = 8 ∨ op = 10 ∨ op = 13 ∨ op = 15 ∨ op = 16 ∨ op = 18)
def isOp (op : Int) : Bool := decide (1 ≤ op) && decide (op ≤ 19)
end Liv

def OfIr (op : Int) (w : World) (e : Ending) (w' : World) : Prop :=
  ∃ (lo hi ex : Int) (k : Bool), e = .returned (.tuple #[.agg #[.int .i64 (Liv.asksN op : Nat), .int .i64 lo, .int .i64 hi, .bool k, .bool (Liv.tells op), .int .i64 ex], .bool (Liv.isOp op)]) ∧ Below w.heap.size w w'

set_option maxRecDepth 100000 in
theorem ofIr_1 (w : World) : Calls Try.prog 110 #[.int .i64 1] w (OfIr 1 w) := by
  go_enter Try.func110, Try.ntmps110
  go_wp2_with (refine wpList_st rfl 172 (.tmp 2) (.tmp 7) rfl w.heap.size rfl rfl (Blk.new _ _ _) (by kernel_rfl) rfl rfl ?_)
  refine bodyPost_ret (results_cell_tmp rfl _ _ w.heap.size _ _ _ rfl (Blk.new _ _ _).setRow Try.underlying172 rfl (by kernel_rfl)) rfl ?_
  exact ⟨0, 1073741824, 0, false, rfl, bel_setRow ((Below.refl _ _).alloc (Nat.le_refl _) _) (Nat.le_refl _) _⟩
set_option maxRecDepth 100000 in
theorem ofIr_2 (w : World) : Calls Try.prog 110 #[.int .i64 2] w (OfIr 2 w) := by
  go_enter Try.func110, Try.ntmps110
  go_wp2_with (refine wpList_st rfl 172 (.tmp 2) (.tmp 10) rfl w.heap.size rfl rfl (Blk.new _ _ _) (by kernel_rfl) rfl rfl ?_)
  refine bodyPost_ret (results_cell_tmp rfl _ _ w.heap.size _ _ _ rfl (Blk.new _ _ _).setRow Try.underlying172 rfl (by kernel_rfl)) rfl ?_
  exact ⟨0, 0, 0, true, rfl, bel_setRow ((Below.refl _ _).alloc (Nat.le_refl _) _) (Nat.le_refl _) _⟩
set_option maxRecDepth 100000 in
theorem ofIr_3 (w : World) : Calls Try.prog 110 #[.int .i64 3] w (OfIr 3 w) := by
  go_enter Try.func110, Try.ntmps110
  go_wp2_with (refine wpList_st rfl 172 (.tmp 2) (.tmp 13) rfl w.heap.size rfl rfl (Blk.new _ _ _) (by kernel_rfl) rfl rfl ?_)
  refine bodyPost_ret (results_cell_tmp rfl _ _ w.heap.size _ _ _ rfl (Blk.new _ _ _).setRow Try.underlying172 rfl (by kernel_rfl)) rfl ?_
  exact ⟨0, 0, 0, false, rfl, bel_setRow ((Below.refl _ _).alloc (Nat.le_refl _) _) (Nat.le_refl _) _⟩
set_option maxRecDepth 100000 in
theorem ofIr_4 (w : World) : Calls Try.prog 110 #[.int .i64 4] w (OfIr 4 w) := by
  go_enter Try.func110, Try.ntmps110
  go_wp2_with (refine wpList_st rfl 172 (.tmp 2) (.tmp 16) rfl w.heap.size rfl rfl (Blk.new _ _ _) (by kernel_rfl) rfl rfl ?_)
  refine bodyPost_ret (results_cell_tmp rfl _ _ w.heap.size _ _ _ rfl (Blk.new _ _ _).setRow Try.underlying172 rfl (by kernel_rfl)) rfl ?_
  exact ⟨0, 6, 2, false, rfl, bel_setRow ((Below.refl _ _).alloc (Nat.le_refl _) _) (Nat.le_refl _) _⟩
set_option maxRecDepth 100000 in
theorem ofIr_5 (w : World) : Calls Try.prog 110 #[.int .i64 5] w (OfIr 5 w) := by
  go_enter Try.func110, Try.ntmps110
  go_wp2_with (refine wpList_st rfl 172 (.tmp 2) (.tmp 19) rfl w.heap.size rfl rfl (Blk.new _ _ _) (by kernel_rfl) rfl rfl ?_)
  refine bodyPost_ret (results_cell_tmp rfl _ _ w.heap.size _ _ _ rfl (Blk.new _ _ _).setRow Try.underlying172 rfl (by kernel_rfl)) rfl ?_
  exact ⟨0, 1, 2, false, rfl, bel_setRow ((Below.refl _ _).alloc (Nat.le_refl _) _) (Nat.le_refl _) _⟩
set_option maxRecDepth 100000 in
theorem ofIr_6 (w : World) : Calls Try.prog 110 #[.int .i64 6] w (OfIr 6 w) := by
  go_enter Try.func110, Try.ntmps110
  go_wp2_with (refine wpList_st rfl 172 (.tmp 2) (.tmp 22) rfl w.heap.size rfl rfl (Blk.new _ _ _) (by kernel_rfl) rfl rfl ?_)
  refine bodyPost_ret (results_cell_tmp rfl _ _ w.heap.size _ _ _ rfl (Blk.new _ _ _).setRow Try.underlying172 rfl (by kernel_rfl)) rfl ?_
  exact ⟨0, 0, 2, true, rfl, bel_setRow ((Below.refl _ _).alloc (Nat.le_refl _) _) (Nat.le_refl _) _⟩
set_option maxRecDepth 100000 in
theorem ofIr_7 (w : World) : Calls Try.prog 110 #[.int .i64 7] w (OfIr 7 w) := by
  go_enter Try.func110, Try.ntmps110
  go_wp2_with (refine wpList_st rfl 172 (.tmp 2) (.tmp 25) rfl w.heap.size rfl rfl (Blk.new _ _ _) (by kernel_rfl) rfl rfl ?_)
  refine bodyPost_ret (results_cell_tmp rfl _ _ w.heap.size _ _ _ rfl (Blk.new _ _ _).setRow Try.underlying172 rfl (by kernel_rfl)) rfl ?_
  exact ⟨3, 10, 1, false, rfl, bel_setRow ((Below.refl _ _).alloc (Nat.le_refl _) _) (Nat.le_refl _) _⟩
set_option maxRecDepth 100000 in
theorem ofIr_8 (w : World) : Calls Try.prog 110 #[.int .i64 8] w (OfIr 8 w) := by
  go_enter Try.func110, Try.ntmps110
  go_wp2_with (refine wpList_st rfl 172 (.tmp 2) (.tmp 28) rfl w.heap.size rfl rfl (Blk.new _ _ _) (by kernel_rfl) rfl rfl ?_)
  refine bodyPost_ret (results_cell_tmp rfl _ _ w.heap.size _ _ _ rfl (Blk.new _ _ _).setRow Try.underlying172 rfl (by kernel_rfl)) rfl ?_
  exact ⟨11, 12, 1, false, rfl, bel_setRow ((Below.refl _ _).alloc (Nat.le_refl _) _) (Nat.le_refl _) _⟩
set_option maxRecDepth 100000 in
theorem ofIr_9 (w : World) : Calls Try.prog 110 #[.int .i64 9] w (OfIr 9 w) := by
  go_enter Try.func110, Try.ntmps110
  go_wp2_with (refine wpList_st rfl 172 (.tmp 2) (.tmp 31) rfl w.heap.size rfl rfl (Blk.new _ _ _) (by kernel_rfl) rfl rfl ?_)
  refine bodyPost_ret (results_cell_tmp rfl _ _ w.heap.size _ _ _ rfl (Blk.new _ _ _).setRow Try.underlying172 rfl (by kernel_rfl)) rfl ?_
  exact ⟨1, 7, 2, false, rfl, bel_setRow ((Below.refl _ _).alloc (Nat.le_refl _) _) (Nat.le_refl _) _⟩
set_option maxRecDepth 100000 in
theorem ofIr_10 (w : World) : Calls Try.prog 110 #[.int .i64 10] w (OfIr 10 w) := by
  go_enter Try.func110, Try.ntmps110
  go_wp2_with (refine wpList_st rfl 172 (.tmp 2) (.tmp 34) rfl w.heap.size rfl rfl (Blk.new _ _ _) (by kernel_rfl) rfl rfl ?_)
  refine bodyPost_ret (results_cell_tmp rfl _ _ w.heap.size _ _ _ rfl (Blk.new _ _ _).setRow Try.underlying172 rfl (by kernel_rfl)) rfl ?_
  exact ⟨0, 99, 0, false, rfl, bel_setRow ((Below.refl _ _).alloc (Nat.le_refl _) _) (Nat.le_refl _) _⟩
set_option maxRecDepth 100000 in
theorem ofIr_11 (w : World) : Calls Try.prog 110 #[.int .i64 11] w (OfIr 11 w) := by
  go_enter Try.func110, Try.ntmps110
  go_wp2_with (refine wpList_st rfl 172 (.tmp 2) (.tmp 37) rfl w.heap.size rfl rfl (Blk.new _ _ _) (by kernel_rfl) rfl rfl ?_)
  refine bodyPost_ret (results_cell_tmp rfl _ _ w.heap.size _ _ _ rfl (Blk.new _ _ _).setRow Try.underlying172 rfl (by kernel_rfl)) rfl ?_
  exact ⟨0, 99, 0, false, rfl, bel_setRow ((Below.refl _ _).alloc (Nat.le_refl _) _) (Nat.le_refl _) _⟩
set_option maxRecDepth 100000 in
theorem ofIr_12 (w : World) : Calls Try.prog 110 #[.int .i64 12] w (OfIr 12 w) := by
  go_enter Try.func110, Try.ntmps110
  go_wp2_with (refine wpList_st rfl 172 (.tmp 2) (.tmp 40) rfl w.heap.size rfl rfl (Blk.new _ _ _) (by kernel_rfl) rfl rfl ?_)
  refine bodyPost_ret (results_cell_tmp rfl _ _ w.heap.size _ _ _ rfl (Blk.new _ _ _).setRow Try.underlying172 rfl (by kernel_rfl)) rfl ?_
  exact ⟨1, 1073741824, 2, false, rfl, bel_setRow ((Below.refl _ _).alloc (Nat.le_refl _) _) (Nat.le_refl _) _⟩
set_option maxRecDepth 100000 in
theorem ofIr_13 (w : World) : Calls Try.prog 110 #[.int .i64 13] w (OfIr 13 w) := by
  go_enter Try.func110, Try.ntmps110
  go_wp2_with (refine wpList_st rfl 172 (.tmp 2) (.tmp 43) rfl w.heap.size rfl rfl (Blk.new _ _ _) (by kernel_rfl) rfl rfl ?_)
  refine bodyPost_ret (results_cell_tmp rfl _ _ w.heap.size _ _ _ rfl (Blk.new _ _ _).setRow Try.underlying172 rfl (by kernel_rfl)) rfl ?_
  exact ⟨0, 0, 2, false, rfl, bel_setRow ((Below.refl _ _).alloc (Nat.le_refl _) _) (Nat.le_refl _) _⟩
set_option maxRecDepth 100000 in
theorem ofIr_14 (w : World) : Calls Try.prog 110 #[.int .i64 14] w (OfIr 14 w) := by
  go_enter Try.func110, Try.ntmps110
  go_wp2_with (refine wpList_st rfl 172 (.tmp 2) (.tmp 46) rfl w.heap.size rfl rfl (Blk.new _ _ _) (by kernel_rfl) rfl rfl ?_)
  refine bodyPost_ret (results_cell_tmp rfl _ _ w.heap.size _ _ _ rfl (Blk.new _ _ _).setRow Try.underlying172 rfl (by kernel_rfl)) rfl ?_
  exact ⟨0, 0, 2, false, rfl, bel_setRow ((Below.refl _ _).alloc (Nat.le_refl _) _) (Nat.le_refl _) _⟩
set_option maxRecDepth 100000 in
theorem ofIr_15 (w : World) : Calls Try.prog 110 #[.int .i64 15] w (OfIr 15 w) := by
  go_enter Try.func110, Try.ntmps110
  go_wp2_with (refine wpList_st rfl 172 (.tmp 2) (.tmp 49) rfl w.heap.size rfl rfl (Blk.new _ _ _) (by kernel_rfl) rfl rfl ?_)
  refine bodyPost_ret (results_cell_tmp rfl _ _ w.heap.size _ _ _ rfl (Blk.new _ _ _).setRow Try.underlying172 rfl (by kernel_rfl)) rfl ?_
  exact ⟨0, 0, 0, false, rfl, bel_setRow ((Below.refl _ _).alloc (Nat.le_refl _) _) (Nat.le_refl _) _⟩
set_option maxRecDepth 100000 in
theorem ofIr_16 (w : World) : Calls Try.prog 110 #[.int .i64 16] w (OfIr 16 w) := by
  go_enter Try.func110, Try.ntmps110
  go_wp2_with (refine wpList_st rfl 172 (.tmp 2) (.tmp 52) rfl w.heap.size rfl rfl (Blk.new _ _ _) (by kernel_rfl) rfl rfl ?_)
  refine bodyPost_ret (results_cell_tmp rfl _ _ w.heap.size _ _ _ rfl (Blk.new _ _ _).setRow Try.underlying172 rfl (by kernel_rfl)) rfl ?_
  exact ⟨1, 3, 2, false, rfl, bel_setRow ((Below.refl _ _).alloc (Nat.le_refl _) _) (Nat.le_refl _) _⟩
set_option maxRecDepth 100000 in
theorem ofIr_17 (w : World) : Calls Try.prog 110 #[.int .i64 17] w (OfIr 17 w) := by
  go_enter Try.func110, Try.ntmps110
  go_wp2_with (refine wpList_st rfl 172 (.tmp 2) (.tmp 55) rfl w.heap.size rfl rfl (Blk.new _ _ _) (by kernel_rfl) rfl rfl ?_)
  refine bodyPost_ret (results_cell_tmp rfl _ _ w.heap.size _ _ _ rfl (Blk.new _ _ _).setRow Try.underlying172 rfl (by kernel_rfl)) rfl ?_
  exact ⟨0, 0, 1, false, rfl, bel_setRow ((Below.refl _ _).alloc (Nat.le_refl _) _) (Nat.le_refl _) _⟩
set_option maxRecDepth 100000 in
theorem ofIr_18 (w : World) : Calls Try.prog 110 #[.int .i64 18] w (OfIr 18 w) := by
  go_enter Try.func110, Try.ntmps110
  go_wp2_with (refine wpList_st rfl 172 (.tmp 2) (.tmp 58) rfl w.heap.size rfl rfl (Blk.new _ _ _) (by kernel_rfl) rfl rfl ?_)
  refine bodyPost_ret (results_cell_tmp rfl _ _ w.heap.size _ _ _ rfl (Blk.new _ _ _).setRow Try.underlying172 rfl (by kernel_rfl)) rfl ?_
  exact ⟨0, 0, 2, false, rfl, bel_setRow ((Below.refl _ _).alloc (Nat.le_refl _) _) (Nat.le_refl _) _⟩
set_option maxRecDepth 100000 in
theorem ofIr_19 (w : World) : Calls Try.prog 110 #[.int .i64 19] w (OfIr 19 w) := by
  go_enter Try.func110, Try.ntmps110
  go_wp2_with (refine wpList_st rfl 172 (.tmp 2) (.tmp 61) rfl w.heap.size rfl rfl (Blk.new _ _ _) (by kernel_rfl) rfl rfl ?_)
  refine bodyPost_ret (results_cell_tmp rfl _ _ w.heap.size _ _ _ rfl (Blk.new _ _ _).setRow Try.underlying172 rfl (by kernel_rfl)) rfl ?_
  exact ⟨1, 1073741824, 2, false, rfl, bel_setRow ((Below.refl _ _).alloc (Nat.le_refl _) _) (Nat.le_refl _) _⟩

set_option maxRecDepth 100000 in
theorem ofIr_any (op : Int) (w : World) : Calls Try.prog 110 #[.int .i64 op] w (OfIr op w) := by
  by_cases h1 : op = 1
  · subst h1; exact ofIr_1 w
  by_cases h2 : op = 2
  · subst h2; exact ofIr_2 w
  by_cases h3 : op = 3
  · subst h3; exact ofIr_3 w
  by_cases h4 : op = 4
  · subst h4; exact ofIr_4 w
  by_cases h5 : op = 5
  · subst h5; exact ofIr_5 w
  by_cases h6 : op = 6
  · subst h6; exact ofIr_6 w
  by_cases h7 : op = 7
  · subst h7; exact ofIr_7 w
  by_cases h8 : op = 8
  · subst h8; exact ofIr_8 w
  by_cases h9 : op = 9
  · subst h9; exact ofIr_9 w
  by_cases h10 : op = 10
  · subst h10; exact ofIr_10 w
  by_cases h11 : op = 11
  · subst h11; exact ofIr_11 w
  by_cases h12 : op = 12
  · subst h12; exact ofIr_12 w
  by_cases h13 : op = 13
  · subst h13; exact ofIr_13 w
  by_cases h14 : op = 14
  · subst h14; exact ofIr_14 w
  by_cases h15 : op = 15
  · subst h15; exact ofIr_15 w
  by_cases h16 : op = 16
  · subst h16; exact ofIr_16 w
  by_cases h17 : op = 17
  · subst h17; exact ofIr_17 w
  by_cases h18 : op = 18
  · subst h18; exact ofIr_18 w
  by_cases h19 : op = 19
  · subst h19; exact ofIr_19 w
  have hT : Liv.tells op = false := by unfold Liv.tells; simp [h1, h2, h3, h7, h8, h10, h13, h15, h16, h18]
  have hA : Liv.asksN op = 0 := by unfold Liv.asksN; simp [h4, h5, h6, h7, h8, h9, h10, h11, h12, h13, h14, h15, h17]
  have hI : Liv.isOp op = false := by unfold Liv.isOp; by_cases q : 1 ≤ op <;> simp [q]; omega
  have HH := Lib.hid (And.intro hT (And.intro hA hI)); clear hT hA hI
  have e1 : (op == 1) = false := by simp [h1]
  have e2 : (op == 2) = false := by simp [h2]
  have e3 : (op == 3) = false := by simp [h3]
  have e4 : (op == 4) = false := by simp [h4]
  have e5 : (op == 5) = false := by simp [h5]
  have e6 : (op == 6) = false := by simp [h6]
  have e7 : (op == 7) = false := by simp [h7]
  have e8 : (op == 8) = false := by simp [h8]
  have e9 : (op == 9) = false := by simp [h9]
  have e10 : (op == 10) = false := by simp [h10]
  have e11 : (op == 11) = false := by simp [h11]
  have e12 : (op == 12) = false := by simp [h12]
  have e13 : (op == 13) = false := by simp [h13]
  have e14 : (op == 14) = false := by simp [h14]
  have e15 : (op == 15) = false := by simp [h15]
  have e16 : (op == 16) = false := by simp [h16]
  have e17 : (op == 17) = false := by simp [h17]
  have e18 : (op == 18) = false := by simp [h18]
  have e19 : (op == 19) = false := by simp [h19]
  clear h1 h2 h3 h4 h5 h6 h7 h8 h9 h10 h11 h12 h13 h14 h15 h16 h17 h18 h19
  go_enter Try.func110, Try.ntmps110
  go_wp2_with (refine wpList_st rfl 172 (.tmp 2) (.tmp 62) rfl w.heap.size rfl rfl (Blk.new _ _ _) (by kernel_rfl) rfl rfl ?_)
  refine bodyPost_ret (results_cell_tmp rfl _ _ w.heap.size _ _ _ rfl (Blk.new _ _ _).setRow Try.underlying172 rfl (by kernel_rfl)) rfl ?_
  exact ⟨0, 0, 0, false, by rw [HH.out.1, HH.out.2.1, HH.out.2.2]; rfl, bel_setRow ((Below.refl _ _).alloc (Nat.le_refl _) _) (Nat.le_refl _) _⟩

end Go.Proofs.Ytljdnadejmkaeaa

/- What an instruction asks, and whether it has a value: ir's functions. -/
namespace Go.Proofs.Ytljdnadejmkaeaa
open Go.RowKit

theorem irTells_any (op : Int) (w : World) : Calls Try.prog 114 #[.int .i64 op] w fun e w' => e = .returned (.bool (Liv.tells op)) ∧ Below w.heap.size w w' := by
  go_enter Try.func114, Try.ntmps114
  go_wp2_with fail
  refine (ofIr_any op w).mono ?_
  rintro e w1 ⟨lo, hi, ex, k, rfl, hb1⟩
  have hs1 := hb1.size
  go_wp2_with fail
  go_ret
  exact ⟨rfl, hb1.alloc hs1 _⟩

theorem known_any (op : Int) (w : World) : Calls Try.prog 111 #[.int .i64 op] w fun e w' => e = .returned (.bool (Liv.isOp op)) ∧ w = w' := by
  obtain ⟨q, hq⟩ : ∃ q, Liv.isOp op = q := ⟨_, rfl⟩
  rw [hq]
  by_cases h0 : 1 ≤ op
  · by_cases h1 : op < 20
    · have : q = true := by rw [← hq]; simp [Liv.isOp, h0]; omega
      clear hq; subst this
      go_enter Try.func111, Try.ntmps111
      go_wp2_with fail
      go_ret
      exact ⟨rfl, rfl⟩
    · have : q = false := by rw [← hq]; simp [Liv.isOp, h0]; omega
      clear hq; subst this
      go_enter Try.func111, Try.ntmps111
      go_wp2_with fail
      go_ret
      exact ⟨rfl, rfl⟩
  · have : q = false := by rw [← hq]; simp [Liv.isOp, h0]
    clear hq; subst this
    go_enter Try.func111, Try.ntmps111
    go_wp2_with fail
    go_ret
    exact ⟨rfl, rfl⟩

namespace Liv
def asks (x : TI) : List Int := [x.a, x.b, x.c].take (asksN x.op)
theorem asksN_le (op : Int) : asksN op ≤ 3 := by unfold asksN; repeat' split
                                                 all_goals omega
theorem asksN_no {op : Int} (h : isOp op = false) : asksN op = 0 := by
  unfold isOp at h
  rw [Bool.and_eq_false_iff] at h
  simp only [decide_eq_false_iff_not] at h
  unfold asksN
  repeat' split
  all_goals omega
end Liv
theorem At.take_ {α : Type} [Enc α] {w : World} {B : Nat} {A : Option Addr} {l : List α} (h : At w B A l) (k : Nat) : At w B A (l.take k) := fun i x hx => h i x (by
  rw [List.getElem?_take] at hx
  split at hx
  · exact hx
  · cases hx)

set_option maxRecDepth 100000 in
theorem irAsks_any (x : TI) (hx : I64 x.a ∧ I64 x.b ∧ I64 x.c) (w : World) :
    Calls Try.prog 67 #[.agg #[.int .i64 x.op, .int .i64 x.a, .int .i64 x.b, .int .i64 x.c, .int .i64 x.n, .int .i64 x.exit, .int .i64 x.k.1, .int .i64 x.k.2]] w fun e w' => ∃ A d, e = .returned (.slice A (Liv.asks x).length d) ∧ Own w' w.heap.size 3 A d (Liv.asks x) ∧ Below w.heap.size w w' := by
  obtain ⟨i0, hi, hz0, hz1, hz2⟩ := info_parts infoInt
  have hn := Liv.asksN_le x.op
  have HX := Lib.hid hx; clear hx
  obtain ⟨C, hC⟩ : ∃ C : Array Value, C = #[.int .i64 x.op, .int .i64 x.a, .int .i64 x.b, .int .i64 x.c, .int .i64 x.n, .int .i64 x.exit, .int .i64 x.k.1, .int .i64 x.k.2] := ⟨_, rfl⟩
  go_enter Try.func67, Try.ntmps67
  go_wp2_with fail
  refine calls_world (fun W => Blk W w.heap.size 121 #[.int .i64 x.op, .int .i64 x.a, .int .i64 x.b, .int .i64 x.c, .int .i64 x.n, .int .i64 x.exit, .int .i64 x.k.1, .int .i64 x.k.2] ∧ Below w.heap.size w W ∧ w.heap.size + 1 ≤ W.heap.size) ⟨Blk.new _ _ _, (Below.refl _ _).alloc (Nat.le_refl _) _, by simp⟩ ?_
  clear hC C
  rintro W ⟨hG, hb0, hs0⟩
  refine (ofIr_any x.op W).mono ?_
  rintro e w1 ⟨lo, hi1, ex, k, rfl, hb1⟩
  have hs1 := hb1.size
  have hbl1 := hb0.trans (hb1.mono (by omega))
  have hG1 := hG.fresh hb1
  have g1 := hG1.cell 1 (v := .int .i64 x.a) rfl
  have g2 := hG1.cell 2 (v := .int .i64 x.b) rfl
  have g3 := hG1.cell 3 (v := .int .i64 x.c) rfl
  have lt1 : w.heap.size < w1.heap.size := by omega
  clear hG hG1
  obtain ⟨na, hna⟩ : ∃ na, Liv.asksN x.op = na := ⟨_, rfl⟩
  have hal : (Liv.asks x).length = na := by unfold Liv.asks; rw [hna, List.length_take]; simp; omega
  rw [hna] at hn ⊢
  cases hio : Liv.isOp x.op with
  | false =>
    have h0 : na = 0 := by rw [← hna]; exact Liv.asksN_no hio
    have hnil : Liv.asks x = [] := List.length_eq_zero_iff.1 (by omega)
    have HN := Lib.hid hnil; clear hnil hna hal hio
    go_wp2_with fail
    go_ret
    exact ⟨none, 0, by rw [HN.out]; rfl, by rw [HN.out]; exact Own.nil_, hbl1.alloc (by omega) _⟩
  | true =>
    have hq0 : (0 : Int) ≤ (na : Int) := by omega
    have hq1 : (na : Int) ≤ 3 := by omega
    have hat := (At.built (w1.alloc (.cells #[.int .i64 (na : Nat), .int .i64 lo, .int .i64 hi1, .bool k, .bool (Liv.tells x.op), .int .i64 ex] 172)) #[.int .i64 x.a, .int .i64 x.b, .int .i64 x.c] 175 [x.a, x.b, x.c] rfl (by obtain ⟨j0, j1, j2⟩ := HX.out; intro z hz; simp at hz; rcases hz with rfl | rfl | rfl <;> assumption)).take_ na
    have hta : [x.a, x.b, x.c].take na = Liv.asks x := by unfold Liv.asks; rw [hna]
    rw [hta] at hat
    have HA := Lib.hid (And.intro hat hal); clear hat hal hta hna hio
    go_wp2_with (at_builtin; go_must (refine wpList_app (α := Int) (n := 0) (m := na) (B := w1.heap.size + 1 + 1) (r := Liv.asks x) rfl (.const (.slice none 0 0)) (.tmp 23) _ rfl w.heap.size 3 i0 _ 8 Try.underlying40 hi hz0 hz1 hz2 rfl (by decide) int_one (by rfl) rfl Own.nil_ (by rfl) ?_ HA.out.2 (by omega) (by simp only [maxLen]; omega) (by simp; omega) ?_))
    · simpa using HA.out.1
    intro A3 c3 w3 hown3 hgr3 hat3
    have hbl3 : Below w.heap.size w w3 := ((hbl1.alloc (by omega) _).alloc (by simp; omega) _).grown hgr3 (by simp; omega) (by simp [rowOf])
    have hown3 : Own w3 w.heap.size 3 A3 c3 (Liv.asks x) := by simpa using hown3
    have H3 := Lib.hid hown3; clear hown3 hgr3 hat3
    go_wp2_with fail
    go_ret
    exact ⟨A3, c3, by simp [HA.out.2], H3.out, hbl3⟩

end Go.Proofs.Ytljdnadejmkaeaa

/- Whether numbers are values of instructions ahead of a place: live.all. -/
namespace Go.Proofs.Ytljdnadejmkaeaa
open Go.RowKit

def PredI (P : Program) (g : Nat) (lb : Array Value) (p : Int → Bool) (l : List Int) (w : World) : Prop :=
  ∀ (W : World) (x : Int), x ∈ l → I64 x → Below w.heap.size w W → Calls P g (#[.int .i64 x] ++ lb) W fun e W' => e = .returned (.bool (p x)) ∧ Below W.heap.size W W'

set_option maxHeartbeats 800000 in
set_option maxRecDepth 100000 in
theorem indexFuncInt_any (A : Option Addr) (c B g : Nat) (lb : Array Value) (p : Int → Bool) (l : List Int) (w : World) (h : At w B A l) (hB : B ≤ w.heap.size) (hl : l.length ≤ 9223372036854775807)
    (eg : ∀ args w, (callFunc g args).run Try.prog w = .ok (.enter g args) w) (hp : PredI Try.prog g lb p l w) :
    Calls Try.prog 141 #[.slice A l.length c, .func (.func g) #[] lb] w fun e w' => e = .returned (.int .i64 (idxI p l)) ∧ Below w.heap.size w w' := by
  have H := Lib.hid h; clear h
  have HP := Lib.hid hp; clear hp
  go_enter Try.func141, Try.ntmps141
  go_wp2
  go_loopw [8] (fun i wr => ∃ k : Nat, k ≤ l.length ∧ i = .int .i64 k ∧ Hid ((l.take k).any p = false) ∧ Below w.heap.size w wr) (fun i _ => l.length - (intOf i).toNat)
  case atStart => exact ⟨0, Nat.zero_le _, rfl, by simp [Hid], Below.refl _ _⟩
  case round =>
    obtain ⟨k, hk, rfl, hno, hbl⟩ := hrel
    have hsz := hbl.size
    by_cases hlt : k < l.length
    · obtain ⟨b, o, x, rfl, hb, hx, hox, h0⟩ := (H.out.below (hbl.mono hB)).int_ hlt
      have hk0 : (0 : Int) ≤ (k : Int) := by omega
      have hk1 : (k : Int) < (l.length : Int) := by omega
      have hcall := HP.out wr x (List.mem_of_getElem? hx) hox hbl
      have HX := Lib.hid hx; clear hx
      cases hq : p x with
      | true =>
        rw [hq] at hcall
        have HC := Lib.hid hcall; clear hcall
        have HQ := Lib.hid hq; clear hq
        go_wp2_with (go_at_fn g; refine HC.out.mono ?_; rintro e w' ⟨rfl, hb'⟩)
        go_ret
        exact ⟨by rw [idxI_hit p l k x HX.out HQ.out hno.out]; rfl, hbl.trans (hb'.mono hsz)⟩
      | false =>
        rw [hq] at hcall
        have HC := Lib.hid hcall; clear hcall
        have HQ := Lib.hid hq; clear hq
        go_wp2_with (go_at_fn g; refine HC.out.mono ?_; rintro e w' ⟨rfl, hb'⟩)
        go_roundw
        case rel => exact ⟨k + 1, by omega, by go_num, by unfold Hid; rw [any_snoc _ _ _ _ HX.out, hno.out, HQ.out]; rfl, hbl.trans (hb'.mono hsz)⟩
        case measure => simp [intOf]; omega
    · go_wp2
      go_ret
      exact ⟨by have h1 := hno.out; rw [List.take_of_length_le (by omega)] at h1; unfold idxI; rw [h1]; rfl, hbl⟩

theorem containsFuncInt_any (A : Option Addr) (c B g : Nat) (lb : Array Value) (p : Int → Bool) (l : List Int) (w : World) (h : At w B A l) (hB : B ≤ w.heap.size) (hl : l.length ≤ 9223372036854775807)
    (eg : ∀ args w, (callFunc g args).run Try.prog w = .ok (.enter g args) w) (hp : PredI Try.prog g lb p l w) :
    Calls Try.prog 112 #[.slice A l.length c, .func (.func g) #[] lb] w fun e w' => e = .returned (.bool (l.any p)) ∧ Below w.heap.size w w' := by
  have HC := Lib.hid (indexFuncInt_any A c B g lb p l w h hB hl eg hp)
  clear h hp eg
  cases hq : l.any p with
  | true =>
    have hi : idxI p l = (l.findIdx p : Int) := by unfold idxI; rw [if_pos hq]
    rw [hi] at HC
    go_enter Try.func112, Try.ntmps112
    go_wp2_with (go_at_call 141; refine HC.out.mono ?_; rintro e w' ⟨rfl, hb'⟩)
    go_ret
    exact ⟨ret_bool (by simp), hb'⟩
  | false =>
    have hi : idxI p l = -1 := by unfold idxI; rw [hq]; rfl
    rw [hi] at HC
    go_enter Try.func112, Try.ntmps112
    go_wp2_with (go_at_call 141; refine HC.out.mono ?_; rintro e w' ⟨rfl, hb'⟩)
    go_ret
    exact ⟨ret_bool (by simp), hb'⟩


namespace Liv
def bad (ins : List TI) (at_ : Int) (v : Int) : Bool := decide (v < 0) || decide (at_ ≤ v) || (ins[v.toNat]?).elim true fun x => !(tells x.op)
end Liv
theorem egAll : ∀ args w, (callFunc 113 args).run Try.prog w = .ok (.enter 113 args) w := fun _ _ => by kernel_rfl

set_option maxRecDepth 100000 in
theorem predAll (GN GT B ic : Nat) (IA : Option Addr) (ins : List TI) (at_ : Int) (cs : Array Value) (l : List Int) (w : World) (hN : Blk w GN 3 #[.int .i64 at_]) (hT : Blk w GT 72 cs) (hcs : cs[3]? = some (.slice IA ins.length ic)) (hI : At w B IA ins) (hB : B ≤ w.heap.size) (hil : ins.length ≤ 9223372036854775807) :
    PredI Try.prog 113 #[.pointer (some ⟨GN, 0, none⟩), .pointer (some ⟨GT, 0, none⟩)] (Liv.bad ins at_) l w := by
  rintro W v _ hv hb
  change Calls Try.prog 113 #[.int .i64 v, .pointer (some ⟨GN, 0, none⟩), .pointer (some ⟨GT, 0, none⟩)] W _
  have c0 := (hN.fresh hb).cell 0 (v := .int .i64 at_) rfl
  have c3 := (hT.fresh hb).cell 3 hcs
  have ltN : GN < W.heap.size := by have := hN.lt; have := hb.size; omega
  have ltT : GT < W.heap.size := by have := hT.lt; have := hb.size; omega
  have HI := Lib.hid (hI.below (hb.mono hB)); clear hI hN hT hcs
  obtain ⟨q, hq⟩ : ∃ q, Liv.bad ins at_ v = q := ⟨_, rfl⟩
  rw [hq]
  by_cases h0 : v < 0
  · have : q = true := by rw [← hq]; simp [Liv.bad, h0]
    clear hq; subst this
    go_enter Try.func113, Try.ntmps113
    go_wp2_with fail
    go_ret
    exact ⟨rfl, Below.refl _ _⟩
  · by_cases h1 : at_ ≤ v
    · have : q = true := by rw [← hq]; simp [Liv.bad, h1]
      clear hq; subst this
      go_enter Try.func113, Try.ntmps113
      go_wp2_with fail
      go_ret
      exact ⟨rfl, Below.refl _ _⟩
    · by_cases h2 : (ins.length : Int) ≤ v
      · have : q = true := by rw [← hq]; unfold Liv.bad; rw [List.getElem?_eq_none (by omega)]; simp
        clear hq; subst this
        go_enter Try.func113, Try.ntmps113
        go_wp2_with fail
        go_ret
        exact ⟨rfl, Below.refl _ _⟩
      · obtain ⟨k, rfl⟩ : ∃ k : Nat, v = (k : Int) := ⟨v.toNat, by omega⟩
        obtain ⟨b, o, x, rfl, hbB, hx, d0, -⟩ := HI.out.tI_ (by omega : k < ins.length)
        have hql : q = !(Liv.tells x.op) := by rw [← hq]; unfold Liv.bad; rw [Int.toNat_natCast, hx]; simp [h1]; intro h; exact absurd h h0
        have HQ := Lib.hid hql; clear hql hq hx
        have hk0 : (0 : Int) ≤ (k : Int) := by omega
        have hk1 : (k : Int) < (ins.length : Int) := by omega
        clear h0
        go_enter Try.func113, Try.ntmps113
        go_wp2_with fail
        refine (irTells_any x.op W).mono ?_
        rintro e w1 ⟨rfl, hb1⟩
        cases ht : Liv.tells x.op with
        | true =>
          rw [ht] at HQ
          clear ht
          go_wp2_with fail
          go_ret
          exact ⟨by rw [HQ.out]; rfl, hb1⟩
        | false =>
          rw [ht] at HQ
          clear ht
          go_wp2_with fail
          go_ret
          exact ⟨by rw [HQ.out]; rfl, hb1⟩

set_option maxRecDepth 100000 in
theorem lall_any (B C ic lc n : Nat) (IA LA : Option Addr) (ins : List TI) (l : List Int) (at_ : Int) (v0 v1 v2 v4 v5 v6 v7 v8 v9 v10 v11 v12 : Value) (w : World) (hI : At w B IA ins) (hB : B ≤ w.heap.size) (hil : ins.length ≤ 9223372036854775807) (hn : l.length = n) (hL : At w C LA l) (hC : C ≤ w.heap.size) (hl : n ≤ 9223372036854775807) :
    Calls Try.prog 70 #[.agg #[v0, v1, v2, .slice IA ins.length ic, v4, v5, v6, v7, v8, v9, v10, v11, v12], .slice LA n lc, .int .i64 at_] w fun e w' => e = .returned (.bool (!(l.any (Liv.bad ins at_)))) ∧ Below w.heap.size w w' := by
  subst hn
  have H := Lib.hid (And.intro hI hL); clear hI hL
  obtain ⟨q, hq⟩ : ∃ q, l.any (Liv.bad ins at_) = q := ⟨_, rfl⟩
  rw [hq]
  have HQ := Lib.hid hq; clear hq
  go_enter Try.func70, Try.ntmps70
  go_wp2_with fail
  refine calls_world (fun W => Blk W (w.heap.size + 1) 3 #[.int .i64 at_] ∧ Blk W w.heap.size 72 #[v0, v1, v2, .slice IA ins.length ic, v4, v5, v6, v7, v8, v9, v10, v11, v12] ∧ Below w.heap.size w W ∧ w.heap.size + 2 ≤ W.heap.size) ⟨Blk.at_ _ _ _ (by simp), (Blk.new _ _ _).alloc _, ((Below.refl _ _).alloc (Nat.le_refl _) _).alloc (by simp) _, by simp⟩ ?_
  rintro W ⟨hN, hT, hb0, hs0⟩
  refine (containsFuncInt_any LA lc C 113 _ (Liv.bad ins at_) l W (H.out.2.below (hb0.mono hC)) (by omega) hl egAll (predAll (w.heap.size + 1) w.heap.size B ic IA ins at_ _ l W hN hT rfl (H.out.1.below (hb0.mono hB)) (by omega) hil)).mono ?_
  rintro e w1 ⟨rfl, hb1⟩
  rw [HQ.out]
  clear hN hT
  cases q with
  | true =>
    go_wp2_with fail
    go_ret
    exact ⟨rfl, hb0.trans (hb1.mono (by omega))⟩
  | false =>
    go_wp2_with fail
    go_ret
    exact ⟨rfl, hb0.trans (hb1.mono (by omega))⟩

end Go.Proofs.Ytljdnadejmkaeaa
