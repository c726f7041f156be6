/- RF: Base, Rowz, Types, OrdL, BytL, Clone, Raws, Slc, Del, Steps. -/
import Derived.WalkKit
import Derived.WalkLawsBesides
import Derived.WalkSpells
import Derived.Lib.Hide
import Derived.Laws.OwnMore
import Derived.Maps.AppendAt
import Derived.Deep.AppendLies
import Derived.Deep.Draws
import Derived.Deep.Slices
import Derived.Deep.RegionLaw
/-
  The words by which this family's contracts speak of memory: Go's data as Lean's ('Enc'), a slice that reads as a list ('At'), rows of the call's own. No program is named here.
-/
namespace Go.Proofs.Ytljdnadejmkaeaa
open Go.RowKit

/-- a number that an int holds -/
def I64 (n : Int) : Prop := -9223372036854775808 ≤ n ∧ n ≤ 9223372036854775807

theorem block_of_add (a : Addr) (n : Nat) : (a.add n).block = a.block := by unfold Addr.add; split <;> rfl
theorem add_of_add (a : Addr) (i j : Nat) : (a.add i).add j = a.add (i + j) := by
  unfold Addr.add
  by_cases hi : i = 0 <;> by_cases hj : j = 0 <;> simp [hi, hj, Nat.add_assoc]
theorem add_mk (b o n : Nat) : (⟨b, o, none⟩ : Addr).add n = ⟨b, o + n, none⟩ := by
  unfold Addr.add; split <;> simp_all

/-- the cells cs stand from offset o of block b on -/
def CellsAt (w : World) (b o : Nat) (cs : List Value) : Prop := ∀ j u, cs[j]? = some u → w.cell? ⟨b, o + j, none⟩ = some u

theorem CellsAt.keep {w w' : World} {b o : Nat} {cs : List Value} (h : CellsAt w b o cs) (hk : ∀ p : Addr, p.block = b → w'.cell? p = w.cell? p) : CellsAt w' b o cs :=
  fun j u hu => (hk _ rfl).trans (h j u hu)

/-- a Go type's data as Lean's: how many cells it has, and when cells read as it (all that they lead to lies below block B) -/
class Enc (α : Type) where
  sz : Nat
  rd : World → Nat → List Value → α → Prop
  len : ∀ {w : World} {B : Nat} {cs : List Value} {x : α}, rd w B cs x → cs.length = sz
  keep : ∀ {w w' : World} {B : Nat} {cs : List Value} {x : α}, rd w B cs x → (∀ p : Addr, p.block < B → w'.cell? p = w.cell? p) → rd w' B cs x
  more : ∀ {w : World} {B B' : Nat} {cs : List Value} {x : α}, rd w B cs x → B ≤ B' → rd w B' cs x

/-- a type whose cells are its own: no pointers -/
class Flat (α : Type) where
  cells : α → List Value
  sz : Nat
  len : ∀ x : α, (cells x).length = sz
  ok : α → Prop

instance (priority := low) encOfFlat {α : Type} [Flat α] : Enc α where
  sz := Flat.sz α
  rd _ _ cs x := cs = Flat.cells x ∧ Flat.ok x
  len h := by rw [h.1]; exact Flat.len _
  keep h _ := h
  more h _ := h

instance : Flat Int where
  cells n := [.int .i64 n]
  sz := 1
  len _ := rfl
  ok n := I64 n

/-- the slice address A reads as the list xs -/
def At {α : Type} [Enc α] (w : World) (B : Nat) (A : Option Addr) (xs : List α) : Prop :=
  ∀ i x, xs[i]? = some x → ∃ b o cs, A = some ⟨b, o, none⟩ ∧ b < B ∧ CellsAt w b (o + i * Enc.sz α) cs ∧ Enc.rd w B cs x

section
variable {α : Type} [Enc α] {w w' : World} {B B' : Nat} {A : Option Addr} {xs : List α}
theorem At.nil_ : At w B A ([] : List α) := fun i x h => by simp at h
theorem At.keep (h : At w B A xs) (hk : ∀ p : Addr, p.block < B → w'.cell? p = w.cell? p) : At w' B A xs := fun i x hx => by
  obtain ⟨b, o, cs, hA, hb, hc, hr⟩ := h i x hx
  exact ⟨b, o, cs, hA, hb, hc.keep fun p hp => hk p (by omega), Enc.keep hr hk⟩
theorem At.more (h : At w B A xs) (hB : B ≤ B') : At w B' A xs := fun i x hx => by
  obtain ⟨b, o, cs, hA, hb, hc, hr⟩ := h i x hx
  exact ⟨b, o, cs, hA, by omega, hc, Enc.more hr hB⟩
theorem At.below (h : At w B A xs) (hb : Below B w w') : At w' B A xs := h.keep fun _ hp => hb.cell hp
theorem At.alloc (h : At w B A xs) (hB : B ≤ w.heap.size) (o : Obj) : At (w.alloc o) B A xs := h.keep fun p hp => World.cell?_alloc_lt w o p (by omega)
theorem At.setCell (h : At w B A xs) {p : Addr} (hB : B ≤ p.block) (u : Value) : At (w.setCell p u) B A xs := h.keep fun q hq => World.cell?_setCell_other w p q u (fun e => by subst e; omega)
theorem At.drew (h : At w B A xs) : At w.drew B A xs := h.keep fun _ _ => rfl
theorem At.drewN (h : At w B A xs) (n : Nat) : At (w.drewN n) B A xs := h.keep fun _ _ => rfl
end

instance {α : Type} [Enc α] : Enc (List α) where
  sz := 1
  rd w B cs xs := ∃ A cap, cs = [.slice A xs.length cap] ∧ xs.length ≤ cap ∧ cap ≤ maxLen ∧ (A = none → cap = 0) ∧ At w B A xs
  len h := by obtain ⟨A, cap, rfl, _⟩ := h; rfl
  keep h hk := by obtain ⟨A, cap, h1, h2, h3, h4, h5⟩ := h; exact ⟨A, cap, h1, h2, h3, h4, h5.keep hk⟩
  more h hB := by obtain ⟨A, cap, h1, h2, h3, h4, h5⟩ := h; exact ⟨A, cap, h1, h2, h3, h4, h5.more hB⟩

theorem below_drewN {B : Nat} {a w : World} (h : Below B a w) (n : Nat) : Below B a (w.drewN n) := ⟨h.os, h.tape, h.output, h.size, h.block⟩

theorem undrew {B : Nat} {a w : World} (h : Below B a.drew w) : Below B a w := ⟨h.os, h.tape, h.output, h.size, h.block⟩
theorem undrewN {B : Nat} {a w : World} {n : Nat} (h : Below B (a.drewN n) w) : Below B a w := ⟨h.os, h.tape, h.output, h.size, h.block⟩

theorem Below.cells {B : Nat} {w w' : World} (hb : Below B w w') : ∀ p : Addr, p.block < B → w'.cell? p = w.cell? p := fun _ hp => hb.cell hp

section
variable {α : Type} [Enc α] {w w' : World} {B : Nat} {cs : List Value} {x : α}
theorem Enc.below (h : Enc.rd w B cs x) (hb : Below B w w') : Enc.rd w' B cs x := Enc.keep h (Below.cells hb)
end

end Go.Proofs.Ytljdnadejmkaeaa

/-
  Rows of the call's own, as lists of plain data; append, a store into a row, what stays over later steps.
-/
namespace Go.Proofs.Ytljdnadejmkaeaa
open Go.RowKit

instance : Flat (Int × Int) where
  cells p := [.int .i64 p.1, .int .i64 p.2]
  sz := 2
  len _ := rfl
  ok p := I64 p.1 ∧ I64 p.2
instance : Flat (Int × Int × Int) where
  cells p := [.int .i64 p.1, .int .i64 p.2.1, .int .i64 p.2.2]
  sz := 3
  len _ := rfl
  ok p := I64 p.1 ∧ I64 p.2.1 ∧ I64 p.2.2
/-- a word of 64 bits -/
structure U64 where
  val : Int
instance : Flat U64 where
  cells p := [.int .u64 p.val]
  sz := 1
  len _ := rfl
  ok p := 0 ≤ p.val ∧ p.val ≤ 18446744073709551615

/-- the cells of a list of plain data, one behind the other -/
def flat {α : Type} [Flat α] (l : List α) : List Value := l.flatMap Flat.cells

section
variable {α : Type} [Flat α]
theorem flat_nil : flat ([] : List α) = [] := rfl
theorem flat_cons (x : α) (l : List α) : flat (x :: l) = Flat.cells x ++ flat l := by simp [flat]
theorem flat_append (l r : List α) : flat (l ++ r) = flat l ++ flat r := by simp [flat]
theorem flat_one (x : α) : flat [x] = Flat.cells x := by simp [flat]
theorem flat_length (l : List α) : (flat l).length = l.length * Flat.sz α := by
  induction l with
  | nil => simp [flat]
  | cons x l ih => rw [flat_cons, List.length_append, ih, Flat.len, List.length_cons, Nat.succ_mul]; omega
theorem flat_get (l : List α) (i j : Nat) (x : α) (hx : l[i]? = some x) (hj : j < Flat.sz α) : (flat l)[i * Flat.sz α + j]? = (Flat.cells x)[j]? := by
  induction l generalizing i with
  | nil => simp at hx
  | cons y l ih =>
    rw [flat_cons]
    cases i with
    | zero =>
      simp only [List.getElem?_cons_zero, Option.some.injEq] at hx
      subst hx
      rw [Nat.zero_mul, Nat.zero_add, List.getElem?_append_left (by rw [Flat.len]; exact hj)]
    | succ i =>
      simp only [List.getElem?_cons_succ] at hx
      rw [List.getElem?_append_right (by rw [Flat.len, Nat.succ_mul]; omega), Flat.len, Nat.succ_mul, show i * Flat.sz α + Flat.sz α + j - Flat.sz α = i * Flat.sz α + j by omega]
      exact ih i hx
theorem flat_set (l : List α) (i : Nat) (x : α) (j : Nat) (u : Value) (y : α) (hx : l[i]? = some x) (hj : j < Flat.sz α) (hy : Flat.cells y = (Flat.cells x).set j u) :
    (flat l).set (i * Flat.sz α + j) u = flat (l.set i y) := by
  induction l generalizing i with
  | nil => simp at hx
  | cons z l ih =>
    cases i with
    | zero =>
      simp only [List.getElem?_cons_zero, Option.some.injEq] at hx
      subst hx
      rw [List.set_cons_zero, flat_cons, flat_cons, hy, Nat.zero_mul, Nat.zero_add, List.set_append_left _ _ (by rw [Flat.len]; exact hj)]
    | succ i =>
      simp only [List.getElem?_cons_succ] at hx
      rw [List.set_cons_succ, flat_cons, flat_cons, List.set_append_right _ _ (by rw [Flat.len, Nat.succ_mul]; omega), Flat.len, Nat.succ_mul,
        show i * Flat.sz α + Flat.sz α + j - Flat.sz α = i * Flat.sz α + j by omega, ih i hx]
/-- the cells of a list that a slice reads as -/
theorem At.news {w : World} {B : Nat} {A : Option Addr} {l : List α} (h : At w B A l) (hne : l ≠ []) : ∃ b o, A = some ⟨b, o, none⟩ ∧ b < B ∧ CellsAt w b o (flat l) := by
  obtain ⟨x0, hx0⟩ : ∃ x, l[0]? = some x := by
    cases l with
    | nil => exact absurd rfl hne
    | cons y l => exact ⟨y, rfl⟩
  obtain ⟨b, o, cs, rfl, hb, -, -⟩ := h 0 x0 hx0
  refine ⟨b, o, rfl, hb, fun j u hu => ?_⟩
  have hlt : j < (flat l).length := (List.getElem?_eq_some_iff.1 hu).1
  rw [flat_length] at hlt
  have hs : 0 < Flat.sz α := by
    rcases Nat.eq_zero_or_pos (Flat.sz α) with h0 | h0
    · rw [h0] at hlt; simp at hlt
    · exact h0
  have hi : j / Flat.sz α < l.length := by rw [Nat.div_lt_iff_lt_mul hs]; exact hlt
  obtain ⟨x, hx⟩ : ∃ x, l[j / Flat.sz α]? = some x := ⟨_, List.getElem?_eq_getElem hi⟩
  obtain ⟨b', o', cs', hA, -, hc, hr⟩ := h _ x hx
  simp only [Option.some.injEq, Addr.mk.injEq] at hA
  obtain ⟨rfl, rfl, -⟩ := hA
  have hcs : cs' = Flat.cells x := hr.1
  subst hcs
  have hm := Nat.mod_lt j hs
  have hd := flat_get l (j / Flat.sz α) (j % Flat.sz α) x hx hm
  have he : j / Flat.sz α * Flat.sz α + j % Flat.sz α = j := Nat.div_add_mod' j _
  rw [he] at hd
  have := hc (j % Flat.sz α) u (by rw [← hd]; exact hu)
  have e2 : o + j / Flat.sz α * Enc.sz α + j % Flat.sz α = o + j := by
    show o + j / Flat.sz α * Flat.sz α + j % Flat.sz α = o + j
    omega
  rw [e2] at this
  exact this
end

/-- the row's block of a slice's address -/
def rowOf (A : Option Addr) : Option Nat := A.map (·.block)
theorem ownBlock_slice (A : Option Addr) (n c : Nat) : Value.ownBlock (.slice A n c) = rowOf A := by cases A <;> rfl

/-- THE SLICE (A, length, c) OWNS THE LIST l, in a row among the blocks from base on -/
def Own {α : Type} [Flat α] (w : World) (base : Nat) (e : TypeId) (A : Option Addr) (c : Nat) (l : List α) : Prop :=
  w.ownsRow base e (Flat.sz α) (.slice A l.length c) l.length (flat l)

section
variable {α : Type} [Flat α] {w w' : World} {base : Nat} {e : TypeId} {A : Option Addr} {c : Nat} {l : List α}
theorem Own.nil_ : Own w base e none 0 ([] : List α) := World.ownsRow_nil w base e _
theorem Own.lt (h : Own w base e A c l) : ∀ g, rowOf A = some g → base ≤ g ∧ g < w.heap.size := fun g hg => World.ownsRow.lt h g (by rw [ownBlock_slice]; exact hg)
theorem Own.base_le {base' : Nat} (h : Own w base e A c l) (hb : base' ≤ base) : Own w base' e A c l := by
  refine ⟨h.1, ?_⟩
  rcases h.2 with h2 | ⟨g, cap, cur, hv, hg, r⟩
  · exact .inl h2
  · exact .inr ⟨g, cap, cur, hv, by omega, r⟩
theorem Own.block_ (h : Own w base e A c l) (hb : ∀ g, rowOf A = some g → w'.heap[g]? = w.heap[g]?) : Own w' base e A c l := by
  refine ⟨h.1, ?_⟩
  rcases h.2 with h2 | ⟨g, cap, cur, hv, hg, hh, r⟩
  · exact .inl h2
  · refine .inr ⟨g, cap, cur, hv, hg, ?_, r⟩
    rw [hb g (by injection hv with h1; subst h1; rfl)]; exact hh
theorem Own.fresh (h : Own w base e A c l) (hb : Below w.heap.size w w') : Own w' base e A c l := h.block_ fun g hg => hb.block g (h.lt g hg).2
theorem Own.below {B : Nat} (h : Own w base e A c l) (hb : Below B w w') (hlt : ∀ g, rowOf A = some g → g < B) : Own w' base e A c l := h.block_ fun g hg => hb.block g (hlt g hg)
theorem Own.alloc (h : Own w base e A c l) (o : Obj) : Own (w.alloc o) base e A c l := World.ownsRow.alloc h o
theorem Own.drewN (h : Own w base e A c l) (n : Nat) : Own (w.drewN n) base e A c l := h
theorem Own.drew (h : Own w base e A c l) : Own w.drew base e A c l := h
theorem Own.setCell (h : Own w base e A c l) (p : Addr) (u : Value) (hp : rowOf A ≠ some p.block) : Own (w.setCell p u) base e A c l :=
  h.block_ fun g hg => Below.heap_setCell _ _ _ _ (fun e => hp (by rw [hg, e]))
theorem Own.grown {row : Option Nat} (h : Own w base e A c l) (hg : w.grownBy w' row) (hne : ∀ g, rowOf A = some g → row ≠ some g) : Own w' base e A c l :=
  h.block_ fun g hg' => hg.block g (h.lt g hg').2 (fun e => hne g hg' e.symm)
theorem Own.le_cap (h : Own w base e A c l) : l.length ≤ c ∧ c ≤ maxLen := by
  rcases h.2 with ⟨h1, h2⟩ | ⟨g, cap, cur, hv, hg, hh, h1, h2, _⟩
  · injection h1 with _ h3 h4; rw [h2] at *; subst h4; simp [maxLen]
  · injection hv with _ _ h3; subst h3; exact ⟨h1, h2⟩
theorem Own.at_zero (h : Own w base e A c l) {a : Addr} (hA : A = some a) : ∃ g, a = ⟨g, 0, none⟩ ∧ base ≤ g ∧ g < w.heap.size := by
  rcases h.2 with ⟨h1, _⟩ | ⟨g, cap, cur, hv, hg, hh, _⟩
  · injection h1 with h3; rw [hA] at h3; cases h3
  · injection hv with h3; rw [hA] at h3; injection h3 with h3; subst h3
    exact ⟨g, rfl, hg, (Array.getElem?_eq_some_iff.1 hh).1⟩
theorem Own.some_ (h : Own w base e A c l) (hl : 0 < l.length) : ∃ g, A = some ⟨g, 0, none⟩ ∧ base ≤ g ∧ g < w.heap.size := by
  rcases h.2 with ⟨_, h2⟩ | ⟨g, cap, cur, hv, hg, hh, _⟩
  · omega
  · injection hv with h3; exact ⟨g, h3, hg, (Array.getElem?_eq_some_iff.1 hh).1⟩
theorem Own.cells_ (h : Own w base e A c l) {g o : Nat} {s : Option Nat} (hA : A = some ⟨g, o, s⟩) : CellsAt w g 0 (flat l) := by
  obtain ⟨g', he, -, -⟩ := h.at_zero hA
  injection he with h1 h2 h3
  subst h1 h2 h3 hA
  intro j u hu
  have := World.ownsRow.cells h (g := g) rfl j u hu
  rw [add_mk] at this
  exact this
/-- an owned row reads as its list -/
theorem Own.at_ (h : Own w base e A c l) (hok : ∀ x ∈ l, Flat.ok x) : At w w.heap.size A l := by
  intro i x hx
  have hi : i < l.length := (List.getElem?_eq_some_iff.1 hx).1
  obtain ⟨g, rfl, -, hlt⟩ := h.some_ (by omega)
  refine ⟨g, 0, Flat.cells x, rfl, hlt, fun j u hu => ?_, rfl, hok x (List.mem_of_getElem? hx)⟩
  have hj : j < Flat.sz α := by rw [← Flat.len x]; exact (List.getElem?_eq_some_iff.1 hu).1
  have := h.cells_ rfl (i * Flat.sz α + j) u (by rw [flat_get l i j x hx hj]; exact hu)
  rw [show 0 + i * Enc.sz α + j = 0 + (i * Flat.sz α + j) from by show 0 + i * Flat.sz α + j = _; omega]
  exact this
theorem Own.frozen (h : Own w base e A c l) {g : Nat} (hA : rowOf A = some g) (j : Nat) : w.frozen? ⟨g, j, none⟩ = false := by
  rcases h.2 with ⟨h1, _⟩ | ⟨g', cap, cur, hv, hg, hh, _⟩
  · injection h1 with h3; rw [h3] at hA; cases hA
  · injection hv with h3; rw [h3] at hA; injection hA with hA; subst hA
    simp [World.frozen?, hh]
/-- a store into an owned row -/
theorem Own.set_ (h : Own w base e A c l) {g i j : Nat} {x y : α} {u : Value} (hA : A = some ⟨g, 0, none⟩) (hx : l[i]? = some x) (hj : j < Flat.sz α) (hy : Flat.cells y = (Flat.cells x).set j u) :
    Own (w.setCell ⟨g, i * Flat.sz α + j, none⟩ u) base e A c (l.set i y) := by
  subst hA
  have hl : (l.set i y).length = l.length := List.length_set
  unfold Own
  rw [hl, ← flat_set l i x j u y hx hj hy]
  refine ⟨by rw [List.length_set]; exact h.1, ?_⟩
  rcases h.2 with ⟨h1, _⟩ | ⟨g', cap, cur, hv, hg, hh, h1, h2, h3, h4⟩
  · injection h1 with h3; cases h3
  · injection hv with h5 _ h6; injection h5 with h5; injection h5 with h5; subst h5 h6
    have hi : i < l.length := (List.getElem?_eq_some_iff.1 hx).1
    refine .inr ⟨g, c, cur.setIfInBounds (i * Flat.sz α + j) u, rfl, hg, ?_, h1, h2, by rw [Array.size_setIfInBounds]; exact h3, ?_⟩
    · simp [World.setCell, Array.getElem?_modify, hh]
    · rw [Array.toList_setIfInBounds, List.take_set, h4]
end

/-- a struct of two numbers stored into an owned row -/
theorem Own.set_two {w : World} {base : Nat} {e : TypeId} {c : Nat} {l : List (Int × Int)} [Flat (Int × Int)] {g i : Nat} {x : Int × Int} {a b : Int} (hsz : Flat.sz (Int × Int) = 2) (hcell : ∀ p : Int × Int, Flat.cells p = [.int .i64 p.1, .int .i64 p.2])
    (h : Own w base e (some ⟨g, 0, none⟩) c l) (hx : l[i]? = some x) : Own ((w.setCell ⟨g, i * 2, none⟩ (.int .i64 a)).setCell ⟨g, i * 2 + 1, none⟩ (.int .i64 b)) base e (some ⟨g, 0, none⟩) c (l.set i (a, b)) := by
  have hi : i < l.length := (List.getElem?_eq_some_iff.1 hx).1
  have h1 := h.set_ (j := 0) (y := (a, x.2)) (u := .int .i64 a) rfl hx (by omega) (by rw [hcell, hcell]; rfl)
  have h2 := h1.set_ (i := i) (x := (a, x.2)) (j := 1) (y := (a, b)) (u := .int .i64 b) rfl (by rw [List.getElem?_set_self hi]) (by omega) (by rw [hcell, hcell]; rfl)
  rw [List.set_set, hsz, Nat.add_zero] at h2
  exact h2

/-- a literal's new block reads as its list -/
theorem At.built {α : Type} [Flat α] (w : World) (cs : Array Value) (e : TypeId) (l : List α) (hcs : cs.toList = flat l) (hok : ∀ x ∈ l, Flat.ok x) :
    At (w.alloc (.cells cs e)) (w.heap.size + 1) (some ⟨w.heap.size, 0, none⟩) l := by
  intro i x hx
  refine ⟨w.heap.size, 0, Flat.cells x, rfl, Nat.lt_succ_self _, fun j u hu => ?_, rfl, hok x (List.mem_of_getElem? hx)⟩
  have hj : j < Flat.sz α := by rw [← Flat.len x]; exact (List.getElem?_eq_some_iff.1 hu).1
  rw [World.cell?_alloc_at _ _ _ _ rfl, ← Array.getElem?_toList, hcs, show 0 + i * Enc.sz α + j = i * Flat.sz α + j from by show 0 + i * Flat.sz α + j = _; omega, flat_get l i j x hx hj]
  exact hu

/-- append onto an owned row of what a slice reads as (nil, empty or not) -/
theorem run_app {α : Type} [Flat α] {P : Program} (w : World) (base : Nat) (t ty e : TypeId) (i : TypeInfo) (z : Value) (bytes : Nat) (ht : P.underlying t = some (.slice e)) (hi : P.info? e = some i) (hz : i.zero = some z)
    (hsize : i.size = Flat.sz α) (hby : i.bytes = bytes) (hzs : z.cells.size = Flat.sz α) (hsz : 0 < Flat.sz α) (hone : ∀ x : α, ∀ u ∈ Flat.cells x, u.oneCell' = true)
    {A : Option Addr} {c : Nat} {l : List α} (hown : Own w base e A c l) {B : Nat} {X : Option Addr} {m d : Nat} {r : List α} (hr : At w B X r) (hm : r.length = m)
    (hbytes : (l.length + m) * bytes ≤ 140737488355328) (h63 : l.length + m ≤ maxLen) (hbase : base ≤ w.heap.size) :
    ∃ A' c' w', (Builtin.append_ #[t, t] ty #[.slice A l.length c, .slice X m d]).run P w = .ok (.slice A' (l.length + m) c') w' ∧ Own w' base e A' c' (l ++ r) ∧ w.grownBy w' (rowOf A) ∧
      (rowOf A' = rowOf A ∨ rowOf A' = some w.heap.size) := by
  subst hm
  rcases List.eq_nil_or_concat r with rfl | ⟨r0, x0, hr0⟩
  · -- nothing is appended
    have hcap := hown.le_cap
    refine ⟨A, c, w, ?_, by simpa using hown, World.grownBy.refl w _, .inl rfl⟩
    cases A with
    | none =>
      have hl : l.length = 0 := by
        rcases hown.2 with ⟨_, h2⟩ | ⟨g, cap, cur, hv, _⟩
        · exact h2
        · injection hv with hv; cases hv
      cases X <;> simp [Builtin.append_, run_underlying ht, sizeOf, typeInfo, hi, Builtin.lenOf, Builtin.firstCells, loadCells, loadCellsFrom, hl]
    | some a =>
      cases X <;> simp [Builtin.append_, run_underlying ht, sizeOf, typeInfo, hi, Builtin.lenOf, Builtin.firstCells, loadCells, loadCellsFrom, hcap.1, storeCells]
  · have hne : r ≠ [] := by rw [hr0]; simp
    obtain ⟨b, o, rfl, hb, hc⟩ := hr.news hne
    obtain ⟨v', w', hrun, h2, h3, h4, h5⟩ := run_append_own_at (P := P) w base t ty e i z (Flat.sz α) bytes ht hi hz hsize hby hzs hsz (.slice A l.length c) l.length (flat l) hown ⟨b, o, none⟩ r.length d (flat r)
      (flat_length r) (fun j u hu => by rw [add_mk]; exact hc j u hu) (fun u hu => by
        unfold flat at hu
        obtain ⟨x, -, hx⟩ := List.mem_flatMap.1 hu
        exact hone x u hx) h63 hbytes hbase
    have hlen : (l ++ r).length = l.length + r.length := List.length_append
    rcases h2.2 with ⟨rfl, h6⟩ | ⟨g, cap, cur, rfl, h6⟩
    · have : 0 < r.length := List.length_pos_iff.2 hne
      omega
    · refine ⟨some ⟨g, 0, none⟩, cap, w', hrun, ?_, by rw [ownBlock_slice] at h3; exact h3, by simpa [ownBlock_slice] using h5⟩
      unfold Own
      rw [hlen, flat_append]
      exact h2

theorem wpList_app {α : Type} [Flat α] {P : Program} {w : World} {ops : Array Oper} {rest : List Oper} {o : Oper} {a : Act} {Q : Exit → Act → World → Prop} (hgd : o.guard = none) (s x : Operand) (t : TypeId)
    (ho : o.op = .call { callee := .builtin .append, args := #[s, x], argTypes := #[t, t] })
    (base : Nat) (e : TypeId) (i : TypeInfo) (z : Value) (bytes : Nat) (ht : P.underlying t = some (.slice e)) (hi : P.info? e = some i) (hz : i.zero = some z)
    (hsize : i.size = Flat.sz α) (hby : i.bytes = bytes) (hzs : z.cells.size = Flat.sz α) (hsz : 0 < Flat.sz α) (hone : ∀ x : α, ∀ u ∈ Flat.cells x, u.oneCell' = true)
    {A : Option Addr} {n c : Nat} {l : List α} (hs : a.eval s = .slice A n c) (hn : l.length = n) (hown : Own w base e A c l) {B : Nat} {X : Option Addr} {m d : Nat} {r : List α} (hx : a.eval x = .slice X m d) (hr : At w B X r) (hm : r.length = m)
    (hbytes : (n + m) * bytes ≤ 140737488355328) (h63 : n + m ≤ maxLen) (hbase : base ≤ w.heap.size)
    (h : ∀ A' c' w', Own w' base e A' c' (l ++ r) → w.grownBy w' (rowOf A) → (rowOf A' = rowOf A ∨ rowOf A' = some w.heap.size) → wpList P ops Q rest (a.put o.dst (.slice A' (n + m) c')) w') :
    wpList P ops Q (o :: rest) a w := by
  subst hn
  refine wpList_plain hgd fun K hK => ?_
  obtain ⟨A', c', w', hrun, h2, h3, h4⟩ := run_app (α := α) (P := P) w base t o.type e i z bytes ht hi hz hsize hby hzs hsz hone hown hr hm hbytes h63 hbase
  unfold Oper.wp execOp
  simp only [ho, resolve, invoke, builtin, Sem.run_bind, Sem.run_pure, Result.andThen_ok, List.map_toArray, List.map_cons, List.map_nil, hs, hx]
  rw [hrun]
  exact hK _ _ (h A' c' w' h2 h3 h4)

/-! ### a block that is known whole -/
/-- block g is just the cells cs of element type t, none of them frozen -/
def Blk (w : World) (g : Nat) (t : TypeId) (cs : Array Value) : Prop := w.heap[g]? = some (.cells cs t (0, 0))

section
variable {w w' : World} {g : Nat} {t : TypeId} {cs : Array Value}
theorem Blk.lt (h : Blk w g t cs) : g < w.heap.size := (Array.getElem?_eq_some_iff.1 h).1
theorem Blk.cell (h : Blk w g t cs) (i : Nat) {v : Value} (hv : cs[i]? = some v) : w.cell? ⟨g, i, none⟩ = some v := (cell_of_row w g i cs t (0, 0) h).trans hv
theorem Blk.frozen (h : Blk w g t cs) (i : Nat) : w.frozen? ⟨g, i, none⟩ = false := by
  unfold Blk at h; simp [World.frozen?, h]
theorem Blk.new (w : World) (t : TypeId) (cs : Array Value) : Blk (w.alloc (.cells cs t)) w.heap.size t cs := heap_alloc_new w _
theorem Blk.at_ (w : World) (t : TypeId) (cs : Array Value) {g : Nat} (hg : g = w.heap.size) : Blk (w.alloc (.cells cs t)) g t cs := by subst hg; exact heap_alloc_new w _
theorem Blk.drew (h : Blk w g t cs) : Blk w.drew g t cs := h
theorem Blk.drewN (h : Blk w g t cs) (n : Nat) : Blk (w.drewN n) g t cs := h
theorem Blk.alloc (h : Blk w g t cs) (o : Obj) : Blk (w.alloc o) g t cs := (Below.heap_alloc w o g h.lt).trans h
theorem Blk.set_ (h : Blk w g t cs) (i : Nat) (u : Value) : Blk (w.setCell ⟨g, i, none⟩ u) g t (cs.setIfInBounds i u) := by
  unfold Blk at h ⊢
  simp [World.setCell, Array.getElem?_modify, h]
theorem Blk.far (h : Blk w g t cs) {p : Addr} (hp : g ≠ p.block) (u : Value) : Blk (w.setCell p u) g t cs := (Below.heap_setCell w p u g hp).trans h
theorem Blk.fresh (h : Blk w g t cs) (hb : Below w.heap.size w w') : Blk w' g t cs := (hb.block g h.lt).trans h
theorem Blk.grown {row : Option Nat} (h : Blk w g t cs) (hb : w.grownBy w' row) (hg : row ≠ some g) : Blk w' g t cs := (hb.block g h.lt (fun e => hg e.symm)).trans h
theorem Blk.cells8 {a0 a1 a2 a3 a4 a5 a6 a7 : Value} (h : Blk w g t #[a0, a1, a2, a3, a4, a5, a6, a7]) :
    w.cell? ⟨g, 0, none⟩ = some a0 ∧ w.cell? ⟨g, 1, none⟩ = some a1 ∧ w.cell? ⟨g, 2, none⟩ = some a2 ∧ w.cell? ⟨g, 3, none⟩ = some a3 ∧ w.cell? ⟨g, 4, none⟩ = some a4 ∧ w.cell? ⟨g, 5, none⟩ = some a5 ∧ w.cell? ⟨g, 6, none⟩ = some a6 ∧ w.cell? ⟨g, 7, none⟩ = some a7 :=
  ⟨h.cell 0 rfl, h.cell 1 rfl, h.cell 2 rfl, h.cell 3 rfl, h.cell 4 rfl, h.cell 5 rfl, h.cell 6 rfl, h.cell 7 rfl⟩
theorem Blk.cells4 {a0 a1 a2 a3 : Value} (h : Blk w g t #[a0, a1, a2, a3]) :
    w.cell? ⟨g, 0, none⟩ = some a0 ∧ w.cell? ⟨g, 1, none⟩ = some a1 ∧ w.cell? ⟨g, 2, none⟩ = some a2 ∧ w.cell? ⟨g, 3, none⟩ = some a3 :=
  ⟨h.cell 0 rfl, h.cell 1 rfl, h.cell 2 rfl, h.cell 3 rfl⟩
theorem At.ok_ {α : Type} [Flat α] {B : Nat} {A : Option Addr} {l : List α} (h : At w B A l) : ∀ x ∈ l, Flat.ok x := by
  intro x hx
  obtain ⟨i, hi⟩ := List.mem_iff_getElem?.1 hx
  obtain ⟨b, o, cs, -, -, -, hr⟩ := h i x hi
  exact hr.2
theorem own_ne_blk {α : Type} [Flat α] {base : Nat} {e : TypeId} {A : Option Addr} {c : Nat} {l : List α} (h : Own w base e A c l) (hg : g < base) : rowOf A ≠ some g := fun he => by have := h.lt g he; omega
end

section
variable {w w' : World} {g : Nat} {t : TypeId} {cs cs' : Array Value}
theorem Blk.setRow (h : Blk w g t cs) : Blk (w.setRow g cs') g t cs' := setRow_heap w g cs cs' t (0, 0) h
theorem Blk.setRow_far (h : Blk w g t cs) {g' : Nat} (hg : g ≠ g') : Blk (w.setRow g' cs') g t cs := (setRow_other w g' g cs' hg).trans h
theorem Own.setRow {α : Type} [Flat α] {base : Nat} {e : TypeId} {A : Option Addr} {c : Nat} {l : List α} (h : Own w base e A c l) {g' : Nat} (hg : rowOf A ≠ some g') : Own (w.setRow g' cs') base e A c l :=
  h.block_ fun k hk => setRow_other w g' k cs' (fun e => hg (by rw [hk, e]))
end

/-- a whole struct loaded from, stored into a block that is known whole -/
theorem wpList_ld {P : Program} {ops : Array Oper} {rest : List Oper} {o : Oper} {a : Act} {w : World} {Q : Exit → Act → World → Prop} (hgd : o.guard = none) (ty : TypeId) (x : Operand) (ho : o.op = .load ty x)
    (g : Nat) (hx : a.eval x = .pointer (some ⟨g, 0, none⟩)) {t : TypeId} {cs : Array Value} {d : TypeDesc} (hg : Blk w g t cs)
    (hu : P.underlying ty = some d) (hd : (match d with | .struct _ | .array _ _ => true | _ => false) = true) (hi : (P.info? ty).map (·.size) = some cs.size)
    (h : wpList P ops Q rest (a.put o.dst (.agg cs)) w) : wpList P ops Q (o :: rest) a w :=
  wpList_load_row hgd ty x ho g hx t cs (0, 0) d hg hu hd hi h
theorem wpList_st {P : Program} {ops : Array Oper} {rest : List Oper} {o : Oper} {a : Act} {w : World} {Q : Exit → Act → World → Prop} (hgd : o.guard = none) (ty : TypeId) (x y : Operand) (ho : o.op = .store ty x y)
    (g : Nat) {cells : Array Value} (hx : a.eval x = .pointer (some ⟨g, 0, none⟩)) (hy : a.eval y = .agg cells)
    {t : TypeId} {old : Array Value} (hg : Blk w g t old) (hi : (P.info? ty).map (·.size) = some cells.size)
    (hold : old.size = cells.size) (h1 : cells.toList.all (·.oneCell') = true)
    (h : wpList P ops Q rest (a.put o.dst undef) (w.setRow g cells)) : wpList P ops Q (o :: rest) a w :=
  wpList_store_row hgd ty x y ho g cells hx hy t old hg hi hold (by rw [← Array.all_toList]; exact h1) h

theorem bel_setRow {B g : Nat} {w0 w : World} (hb : Below B w0 w) (hBg : B ≤ g) (cs : Array Value) : Below B w0 (w.setRow g cs) :=
  hb.trans ⟨rfl, rfl, rfl, by simp, fun k hk => setRow_other w g k cs (by omega)⟩

/-- a struct and a plain value handed back -/
theorem results_cell_tmp {P : Program} {fn : Func} {p q : Tmp} {ty : TypeId} (h : fn.results = #[.cell p ty, .tmp q]) (tmps : Array Value) (w : World) (g : Nat) (t : TypeId) (cs : Array Value) (d : TypeDesc)
    (hp : tmps.getD p undef = .pointer (some ⟨g, 0, none⟩)) (hg : Blk w g t cs)
    (hu : P.underlying ty = some d) (hd : (match d with | .struct _ | .array _ _ => true | _ => false) = true) (hi : (P.info? ty).map (·.size) = some cs.size) :
    (results fn tmps).run P w = .ok (.tuple #[.agg cs, tmps.getD q undef]) w := by
  have hp' : tmps[p]?.getD undef = .pointer (some ⟨g, 0, none⟩) := by simpa using hp
  simp [results, h, hp', asAddr, run_loadVar_row w g t ty cs (0, 0) d hg hu hd hi]

/-- the world at hand behind a name, of which only what is said is known -/
theorem wp_world {P : Program} {c : Code} {Q : Exit → Act → World → Prop} {a : Act} {w0 : World} (p : World → Prop) (h0 : p w0) (h : ∀ w, p w → Code.wp P c Q a w) : Code.wp P c Q a w0 := h w0 h0
theorem wpList_world {P : Program} {ops : Array Oper} {Q : Exit → Act → World → Prop} {l : List Oper} {a : Act} {w0 : World} (p : World → Prop) (h0 : p w0) (h : ∀ w, p w → wpList P ops Q l a w) : wpList P ops Q l a w0 := h w0 h0
theorem calls_world {P : Program} {f : FuncId} {args : Array Value} {R : Ending → World → Prop} {w0 : World} (p : World → Prop) (h0 : p w0) (h : ∀ w, p w → Calls P f args w R) : Calls P f args w0 R := h w0 h0

end Go.Proofs.Ytljdnadejmkaeaa

/-
  Go's struct types as Lean's (printed by gentypes.py): their cells, their reading, what an element of a slice of them holds.
-/
namespace Go.Proofs.Ytljdnadejmkaeaa
open Go.RowKit

structure Mk where
  cell : Int
  kind : Int
  num : Int
  vals : List Int

instance : Enc Mk where
  sz := 4
  rd w B cs x := ∃ (c_vals : Value), cs = [.int .i64 x.cell] ++ ([.int .i64 x.kind] ++ ([.int .i64 x.num] ++ ([c_vals]))) ∧ I64 x.cell ∧ I64 x.kind ∧ I64 x.num ∧ Enc.rd w B [c_vals] x.vals
  len := by
    rintro w B cs x ⟨c_vals, rfl, h0, h1, h2, h3⟩
    simp only [List.length_append, List.length_cons, List.length_nil]
  keep := by
    rintro w w2 B cs x ⟨c_vals, rfl, h0, h1, h2, h3⟩ hk
    exact ⟨_, rfl, h0, h1, h2, Enc.keep h3 hk⟩
  more := by
    rintro w B B2 cs x ⟨c_vals, rfl, h0, h1, h2, h3⟩ hB
    exact ⟨_, rfl, h0, h1, h2, Enc.more h3 hB⟩

theorem At.mk_ {w : World} {B : Nat} {A : Option Addr} {l : List Mk} {k : Nat} (h : At w B A l) (hk : k < l.length) :
    ∃ b o x A_vals c_vals, A = some ⟨b, o, none⟩ ∧ b < B ∧ l[k]? = some x ∧ w.cell? ⟨b, o + k * 4, none⟩ = some (.int .i64 x.cell) ∧ w.cell? ⟨b, o + k * 4 + 1, none⟩ = some (.int .i64 x.kind) ∧ w.cell? ⟨b, o + k * 4 + 2, none⟩ = some (.int .i64 x.num) ∧ w.cell? ⟨b, o + k * 4 + 3, none⟩ = some (.slice A_vals x.vals.length c_vals) ∧ At w B A_vals x.vals ∧ (x.vals.length ≤ c_vals ∧ c_vals ≤ maxLen) ∧ I64 x.cell ∧ I64 x.kind ∧ I64 x.num := by
  obtain ⟨x, hx⟩ : ∃ x, l[k]? = some x := ⟨l[k], List.getElem?_eq_getElem hk⟩
  obtain ⟨b, o, cs, rfl, hb, hc, hr⟩ := h k x hx
  obtain ⟨c_vals, rfl, h0, h1, h2, h3⟩ := hr
  obtain ⟨A_vals, d_vals, e3, l1_vals, l2_vals, -, at_vals⟩ := h3
  injection e3 with e3; subst e3
  exact ⟨b, o, x, A_vals, d_vals, rfl, hb, hx, hc 0 _ rfl, hc 1 _ rfl, hc 2 _ rfl, hc 3 _ rfl, at_vals, ⟨l1_vals, l2_vals⟩, h0, h1, h2⟩

structure Ex where
  at_ : Int
  steps : Int
  sets : List (Int × Int)
  makes : List Mk

instance : Enc Ex where
  sz := 4
  rd w B cs x := ∃ (c_sets : Value) (c_makes : Value), cs = [.int .i64 x.at_] ++ ([.int .i64 x.steps] ++ ([c_sets] ++ ([c_makes]))) ∧ I64 x.at_ ∧ I64 x.steps ∧ Enc.rd w B [c_sets] x.sets ∧ Enc.rd w B [c_makes] x.makes
  len := by
    rintro w B cs x ⟨c_sets, c_makes, rfl, h0, h1, h2, h3⟩
    simp only [List.length_append, List.length_cons, List.length_nil]
  keep := by
    rintro w w2 B cs x ⟨c_sets, c_makes, rfl, h0, h1, h2, h3⟩ hk
    exact ⟨_, _, rfl, h0, h1, Enc.keep h2 hk, Enc.keep h3 hk⟩
  more := by
    rintro w B B2 cs x ⟨c_sets, c_makes, rfl, h0, h1, h2, h3⟩ hB
    exact ⟨_, _, rfl, h0, h1, Enc.more h2 hB, Enc.more h3 hB⟩

theorem At.ex_ {w : World} {B : Nat} {A : Option Addr} {l : List Ex} {k : Nat} (h : At w B A l) (hk : k < l.length) :
    ∃ b o x A_sets c_sets A_makes c_makes, A = some ⟨b, o, none⟩ ∧ b < B ∧ l[k]? = some x ∧ w.cell? ⟨b, o + k * 4, none⟩ = some (.int .i64 x.at_) ∧ w.cell? ⟨b, o + k * 4 + 1, none⟩ = some (.int .i64 x.steps) ∧ w.cell? ⟨b, o + k * 4 + 2, none⟩ = some (.slice A_sets x.sets.length c_sets) ∧ w.cell? ⟨b, o + k * 4 + 3, none⟩ = some (.slice A_makes x.makes.length c_makes) ∧ At w B A_sets x.sets ∧ (x.sets.length ≤ c_sets ∧ c_sets ≤ maxLen) ∧ At w B A_makes x.makes ∧ (x.makes.length ≤ c_makes ∧ c_makes ≤ maxLen) ∧ I64 x.at_ ∧ I64 x.steps := by
  obtain ⟨x, hx⟩ : ∃ x, l[k]? = some x := ⟨l[k], List.getElem?_eq_getElem hk⟩
  obtain ⟨b, o, cs, rfl, hb, hc, hr⟩ := h k x hx
  obtain ⟨c_sets, c_makes, rfl, h0, h1, h2, h3⟩ := hr
  obtain ⟨A_sets, d_sets, e2, l1_sets, l2_sets, -, at_sets⟩ := h2
  injection e2 with e2; subst e2
  obtain ⟨A_makes, d_makes, e3, l1_makes, l2_makes, -, at_makes⟩ := h3
  injection e3 with e3; subst e3
  exact ⟨b, o, x, A_sets, d_sets, A_makes, d_makes, rfl, hb, hx, hc 0 _ rfl, hc 1 _ rfl, hc 2 _ rfl, hc 3 _ rfl, at_sets, ⟨l1_sets, l2_sets⟩, at_makes, ⟨l1_makes, l2_makes⟩, h0, h1⟩

structure Fr where
  fn : Int
  at_ : Int
  fto : Int
  gen : Int
  self : (Int × Int)
  regs : List (Int × Int)
  tries : List (Int × Int)

instance : Enc Fr where
  sz := 8
  rd w B cs x := ∃ (c_regs : Value) (c_tries : Value), cs = [.int .i64 x.fn] ++ ([.int .i64 x.at_] ++ ([.int .i64 x.fto] ++ ([.int .i64 x.gen] ++ ([.int .i64 x.self.1, .int .i64 x.self.2] ++ ([c_regs] ++ ([c_tries])))))) ∧ I64 x.fn ∧ I64 x.at_ ∧ I64 x.fto ∧ I64 x.gen ∧ I64 x.self.1 ∧ I64 x.self.2 ∧ Enc.rd w B [c_regs] x.regs ∧ Enc.rd w B [c_tries] x.tries
  len := by
    rintro w B cs x ⟨c_regs, c_tries, rfl, h0, h1, h2, h3, h4, h5, h6, h7⟩
    simp only [List.length_append, List.length_cons, List.length_nil]
  keep := by
    rintro w w2 B cs x ⟨c_regs, c_tries, rfl, h0, h1, h2, h3, h4, h5, h6, h7⟩ hk
    exact ⟨_, _, rfl, h0, h1, h2, h3, h4, h5, Enc.keep h6 hk, Enc.keep h7 hk⟩
  more := by
    rintro w B B2 cs x ⟨c_regs, c_tries, rfl, h0, h1, h2, h3, h4, h5, h6, h7⟩ hB
    exact ⟨_, _, rfl, h0, h1, h2, h3, h4, h5, Enc.more h6 hB, Enc.more h7 hB⟩

theorem At.fr_ {w : World} {B : Nat} {A : Option Addr} {l : List Fr} {k : Nat} (h : At w B A l) (hk : k < l.length) :
    ∃ b o x A_regs c_regs A_tries c_tries, A = some ⟨b, o, none⟩ ∧ b < B ∧ l[k]? = some x ∧ w.cell? ⟨b, o + k * 8, none⟩ = some (.int .i64 x.fn) ∧ w.cell? ⟨b, o + k * 8 + 1, none⟩ = some (.int .i64 x.at_) ∧ w.cell? ⟨b, o + k * 8 + 2, none⟩ = some (.int .i64 x.fto) ∧ w.cell? ⟨b, o + k * 8 + 3, none⟩ = some (.int .i64 x.gen) ∧ w.cell? ⟨b, o + k * 8 + 4, none⟩ = some (.int .i64 x.self.1) ∧ w.cell? ⟨b, o + k * 8 + 5, none⟩ = some (.int .i64 x.self.2) ∧ w.cell? ⟨b, o + k * 8 + 6, none⟩ = some (.slice A_regs x.regs.length c_regs) ∧ w.cell? ⟨b, o + k * 8 + 7, none⟩ = some (.slice A_tries x.tries.length c_tries) ∧ At w B A_regs x.regs ∧ (x.regs.length ≤ c_regs ∧ c_regs ≤ maxLen) ∧ At w B A_tries x.tries ∧ (x.tries.length ≤ c_tries ∧ c_tries ≤ maxLen) ∧ I64 x.fn ∧ I64 x.at_ ∧ I64 x.fto ∧ I64 x.gen ∧ I64 x.self.1 ∧ I64 x.self.2 := by
  obtain ⟨x, hx⟩ : ∃ x, l[k]? = some x := ⟨l[k], List.getElem?_eq_getElem hk⟩
  obtain ⟨b, o, cs, rfl, hb, hc, hr⟩ := h k x hx
  obtain ⟨c_regs, c_tries, rfl, h0, h1, h2, h3, h4, h5, h6, h7⟩ := hr
  obtain ⟨A_regs, d_regs, e6, l1_regs, l2_regs, -, at_regs⟩ := h6
  injection e6 with e6; subst e6
  obtain ⟨A_tries, d_tries, e7, l1_tries, l2_tries, -, at_tries⟩ := h7
  injection e7 with e7; subst e7
  exact ⟨b, o, x, A_regs, d_regs, A_tries, d_tries, rfl, hb, hx, hc 0 _ rfl, hc 1 _ rfl, hc 2 _ rfl, hc 3 _ rfl, hc 4 _ rfl, hc 5 _ rfl, hc 6 _ rfl, hc 7 _ rfl, at_regs, ⟨l1_regs, l2_regs⟩, at_tries, ⟨l1_tries, l2_tries⟩, h0, h1, h2, h3, h4, h5⟩

structure Ce where
  kind : Int
  num : Int
  vals : List (Int × Int)
  frames : List Fr

instance : Enc Ce where
  sz := 4
  rd w B cs x := ∃ (c_vals : Value) (c_frames : Value), cs = [.int .i64 x.kind] ++ ([.int .i64 x.num] ++ ([c_vals] ++ ([c_frames]))) ∧ I64 x.kind ∧ I64 x.num ∧ Enc.rd w B [c_vals] x.vals ∧ Enc.rd w B [c_frames] x.frames
  len := by
    rintro w B cs x ⟨c_vals, c_frames, rfl, h0, h1, h2, h3⟩
    simp only [List.length_append, List.length_cons, List.length_nil]
  keep := by
    rintro w w2 B cs x ⟨c_vals, c_frames, rfl, h0, h1, h2, h3⟩ hk
    exact ⟨_, _, rfl, h0, h1, Enc.keep h2 hk, Enc.keep h3 hk⟩
  more := by
    rintro w B B2 cs x ⟨c_vals, c_frames, rfl, h0, h1, h2, h3⟩ hB
    exact ⟨_, _, rfl, h0, h1, Enc.more h2 hB, Enc.more h3 hB⟩

theorem At.ce_ {w : World} {B : Nat} {A : Option Addr} {l : List Ce} {k : Nat} (h : At w B A l) (hk : k < l.length) :
    ∃ b o x A_vals c_vals A_frames c_frames, A = some ⟨b, o, none⟩ ∧ b < B ∧ l[k]? = some x ∧ w.cell? ⟨b, o + k * 4, none⟩ = some (.int .i64 x.kind) ∧ w.cell? ⟨b, o + k * 4 + 1, none⟩ = some (.int .i64 x.num) ∧ w.cell? ⟨b, o + k * 4 + 2, none⟩ = some (.slice A_vals x.vals.length c_vals) ∧ w.cell? ⟨b, o + k * 4 + 3, none⟩ = some (.slice A_frames x.frames.length c_frames) ∧ At w B A_vals x.vals ∧ (x.vals.length ≤ c_vals ∧ c_vals ≤ maxLen) ∧ At w B A_frames x.frames ∧ (x.frames.length ≤ c_frames ∧ c_frames ≤ maxLen) ∧ I64 x.kind ∧ I64 x.num := by
  obtain ⟨x, hx⟩ : ∃ x, l[k]? = some x := ⟨l[k], List.getElem?_eq_getElem hk⟩
  obtain ⟨b, o, cs, rfl, hb, hc, hr⟩ := h k x hx
  obtain ⟨c_vals, c_frames, rfl, h0, h1, h2, h3⟩ := hr
  obtain ⟨A_vals, d_vals, e2, l1_vals, l2_vals, -, at_vals⟩ := h2
  injection e2 with e2; subst e2
  obtain ⟨A_frames, d_frames, e3, l1_frames, l2_frames, -, at_frames⟩ := h3
  injection e3 with e3; subst e3
  exact ⟨b, o, x, A_vals, d_vals, A_frames, d_frames, rfl, hb, hx, hc 0 _ rfl, hc 1 _ rfl, hc 2 _ rfl, hc 3 _ rfl, at_vals, ⟨l1_vals, l2_vals⟩, at_frames, ⟨l1_frames, l2_frames⟩, h0, h1⟩

structure TI where
  op : Int
  a : Int
  b : Int
  c : Int
  n : Int
  exit : Int
  k : (Int × Int)

instance : Enc TI where
  sz := 8
  rd w B cs x := cs = [.int .i64 x.op] ++ ([.int .i64 x.a] ++ ([.int .i64 x.b] ++ ([.int .i64 x.c] ++ ([.int .i64 x.n] ++ ([.int .i64 x.exit] ++ ([.int .i64 x.k.1, .int .i64 x.k.2])))))) ∧ I64 x.op ∧ I64 x.a ∧ I64 x.b ∧ I64 x.c ∧ I64 x.n ∧ I64 x.exit ∧ I64 x.k.1 ∧ I64 x.k.2
  len h := by rw [h.1]; rfl
  keep h _ := h
  more h _ := h

theorem At.tI_ {w : World} {B : Nat} {A : Option Addr} {l : List TI} {k : Nat} (h : At w B A l) (hk : k < l.length) :
    ∃ b o x, A = some ⟨b, o, none⟩ ∧ b < B ∧ l[k]? = some x ∧ w.cell? ⟨b, o + k * 8, none⟩ = some (.int .i64 x.op) ∧ w.cell? ⟨b, o + k * 8 + 1, none⟩ = some (.int .i64 x.a) ∧ w.cell? ⟨b, o + k * 8 + 2, none⟩ = some (.int .i64 x.b) ∧ w.cell? ⟨b, o + k * 8 + 3, none⟩ = some (.int .i64 x.c) ∧ w.cell? ⟨b, o + k * 8 + 4, none⟩ = some (.int .i64 x.n) ∧ w.cell? ⟨b, o + k * 8 + 5, none⟩ = some (.int .i64 x.exit) ∧ w.cell? ⟨b, o + k * 8 + 6, none⟩ = some (.int .i64 x.k.1) ∧ w.cell? ⟨b, o + k * 8 + 7, none⟩ = some (.int .i64 x.k.2) ∧ I64 x.op ∧ I64 x.a ∧ I64 x.b ∧ I64 x.c ∧ I64 x.n ∧ I64 x.exit ∧ I64 x.k.1 ∧ I64 x.k.2 := by
  obtain ⟨x, hx⟩ : ∃ x, l[k]? = some x := ⟨l[k], List.getElem?_eq_getElem hk⟩
  obtain ⟨b, o, cs, rfl, hb, hc, hr⟩ := h k x hx
  obtain ⟨rfl, h0, h1, h2, h3, h4, h5, h6, h7⟩ := hr
  exact ⟨b, o, x, rfl, hb, hx, hc 0 _ rfl, hc 1 _ rfl, hc 2 _ rfl, hc 3 _ rfl, hc 4 _ rfl, hc 5 _ rfl, hc 6 _ rfl, hc 7 _ rfl, h0, h1, h2, h3, h4, h5, h6, h7⟩

structure TT where
  fn : Int
  at_ : Int
  loop : Int
  ins : List TI
  exits : List Ex
  turn : Ex
  back : Ex

instance : Enc TT where
  sz := 13
  rd w B cs x := ∃ (c_ins : Value) (c_exits : Value) (c_turn : List Value) (c_back : List Value), cs = [.int .i64 x.fn] ++ ([.int .i64 x.at_] ++ ([.int .i64 x.loop] ++ ([c_ins] ++ ([c_exits] ++ (c_turn ++ (c_back)))))) ∧ I64 x.fn ∧ I64 x.at_ ∧ I64 x.loop ∧ Enc.rd w B [c_ins] x.ins ∧ Enc.rd w B [c_exits] x.exits ∧ Enc.rd w B c_turn x.turn ∧ Enc.rd w B c_back x.back
  len := by
    rintro w B cs x ⟨c_ins, c_exits, c_turn, c_back, rfl, h0, h1, h2, h3, h4, h5, h6⟩
    have g5 := Enc.len h5
    have g6 := Enc.len h6
    simp only [List.length_append, List.length_cons, List.length_nil, g5, g6]
    rfl
  keep := by
    rintro w w2 B cs x ⟨c_ins, c_exits, c_turn, c_back, rfl, h0, h1, h2, h3, h4, h5, h6⟩ hk
    exact ⟨_, _, _, _, rfl, h0, h1, h2, Enc.keep h3 hk, Enc.keep h4 hk, Enc.keep h5 hk, Enc.keep h6 hk⟩
  more := by
    rintro w B B2 cs x ⟨c_ins, c_exits, c_turn, c_back, rfl, h0, h1, h2, h3, h4, h5, h6⟩ hB
    exact ⟨_, _, _, _, rfl, h0, h1, h2, Enc.more h3 hB, Enc.more h4 hB, Enc.more h5 hB, Enc.more h6 hB⟩

structure RM where
  cell : (Int × Int)
  kind : Int
  num : Int
  vals : List (Int × Int)

instance : Enc RM where
  sz := 5
  rd w B cs x := ∃ (c_vals : Value), cs = [.int .i64 x.cell.1, .int .i64 x.cell.2] ++ ([.int .i64 x.kind] ++ ([.int .i64 x.num] ++ ([c_vals]))) ∧ I64 x.cell.1 ∧ I64 x.cell.2 ∧ I64 x.kind ∧ I64 x.num ∧ Enc.rd w B [c_vals] x.vals
  len := by
    rintro w B cs x ⟨c_vals, rfl, h0, h1, h2, h3, h4⟩
    simp only [List.length_append, List.length_cons, List.length_nil]
  keep := by
    rintro w w2 B cs x ⟨c_vals, rfl, h0, h1, h2, h3, h4⟩ hk
    exact ⟨_, rfl, h0, h1, h2, h3, Enc.keep h4 hk⟩
  more := by
    rintro w B B2 cs x ⟨c_vals, rfl, h0, h1, h2, h3, h4⟩ hB
    exact ⟨_, rfl, h0, h1, h2, h3, Enc.more h4 hB⟩

theorem At.rM_ {w : World} {B : Nat} {A : Option Addr} {l : List RM} {k : Nat} (h : At w B A l) (hk : k < l.length) :
    ∃ b o x A_vals c_vals, A = some ⟨b, o, none⟩ ∧ b < B ∧ l[k]? = some x ∧ w.cell? ⟨b, o + k * 5, none⟩ = some (.int .i64 x.cell.1) ∧ w.cell? ⟨b, o + k * 5 + 1, none⟩ = some (.int .i64 x.cell.2) ∧ w.cell? ⟨b, o + k * 5 + 2, none⟩ = some (.int .i64 x.kind) ∧ w.cell? ⟨b, o + k * 5 + 3, none⟩ = some (.int .i64 x.num) ∧ w.cell? ⟨b, o + k * 5 + 4, none⟩ = some (.slice A_vals x.vals.length c_vals) ∧ At w B A_vals x.vals ∧ (x.vals.length ≤ c_vals ∧ c_vals ≤ maxLen) ∧ I64 x.cell.1 ∧ I64 x.cell.2 ∧ I64 x.kind ∧ I64 x.num := by
  obtain ⟨x, hx⟩ : ∃ x, l[k]? = some x := ⟨l[k], List.getElem?_eq_getElem hk⟩
  obtain ⟨b, o, cs, rfl, hb, hc, hr⟩ := h k x hx
  obtain ⟨c_vals, rfl, h0, h1, h2, h3, h4⟩ := hr
  obtain ⟨A_vals, d_vals, e4, l1_vals, l2_vals, -, at_vals⟩ := h4
  injection e4 with e4; subst e4
  exact ⟨b, o, x, A_vals, d_vals, rfl, hb, hx, hc 0 _ rfl, hc 1 _ rfl, hc 2 _ rfl, hc 3 _ rfl, hc 4 _ rfl, at_vals, ⟨l1_vals, l2_vals⟩, h0, h1, h2, h3⟩

structure RE where
  at_ : Int
  steps : Int
  sets : List (Int × Int × Int)
  makes : List RM

instance : Enc RE where
  sz := 4
  rd w B cs x := ∃ (c_sets : Value) (c_makes : Value), cs = [.int .i64 x.at_] ++ ([.int .i64 x.steps] ++ ([c_sets] ++ ([c_makes]))) ∧ I64 x.at_ ∧ I64 x.steps ∧ Enc.rd w B [c_sets] x.sets ∧ Enc.rd w B [c_makes] x.makes
  len := by
    rintro w B cs x ⟨c_sets, c_makes, rfl, h0, h1, h2, h3⟩
    simp only [List.length_append, List.length_cons, List.length_nil]
  keep := by
    rintro w w2 B cs x ⟨c_sets, c_makes, rfl, h0, h1, h2, h3⟩ hk
    exact ⟨_, _, rfl, h0, h1, Enc.keep h2 hk, Enc.keep h3 hk⟩
  more := by
    rintro w B B2 cs x ⟨c_sets, c_makes, rfl, h0, h1, h2, h3⟩ hB
    exact ⟨_, _, rfl, h0, h1, Enc.more h2 hB, Enc.more h3 hB⟩

theorem At.rE_ {w : World} {B : Nat} {A : Option Addr} {l : List RE} {k : Nat} (h : At w B A l) (hk : k < l.length) :
    ∃ b o x A_sets c_sets A_makes c_makes, A = some ⟨b, o, none⟩ ∧ b < B ∧ l[k]? = some x ∧ w.cell? ⟨b, o + k * 4, none⟩ = some (.int .i64 x.at_) ∧ w.cell? ⟨b, o + k * 4 + 1, none⟩ = some (.int .i64 x.steps) ∧ w.cell? ⟨b, o + k * 4 + 2, none⟩ = some (.slice A_sets x.sets.length c_sets) ∧ w.cell? ⟨b, o + k * 4 + 3, none⟩ = some (.slice A_makes x.makes.length c_makes) ∧ At w B A_sets x.sets ∧ (x.sets.length ≤ c_sets ∧ c_sets ≤ maxLen) ∧ At w B A_makes x.makes ∧ (x.makes.length ≤ c_makes ∧ c_makes ≤ maxLen) ∧ I64 x.at_ ∧ I64 x.steps := by
  obtain ⟨x, hx⟩ : ∃ x, l[k]? = some x := ⟨l[k], List.getElem?_eq_getElem hk⟩
  obtain ⟨b, o, cs, rfl, hb, hc, hr⟩ := h k x hx
  obtain ⟨c_sets, c_makes, rfl, h0, h1, h2, h3⟩ := hr
  obtain ⟨A_sets, d_sets, e2, l1_sets, l2_sets, -, at_sets⟩ := h2
  injection e2 with e2; subst e2
  obtain ⟨A_makes, d_makes, e3, l1_makes, l2_makes, -, at_makes⟩ := h3
  injection e3 with e3; subst e3
  exact ⟨b, o, x, A_sets, d_sets, A_makes, d_makes, rfl, hb, hx, hc 0 _ rfl, hc 1 _ rfl, hc 2 _ rfl, hc 3 _ rfl, at_sets, ⟨l1_sets, l2_sets⟩, at_makes, ⟨l1_makes, l2_makes⟩, h0, h1⟩

structure RO where
  op : Int
  a : Int
  b : Int
  c : Int
  n : Int
  exit : Int
  k : (Int × Int)

instance : Enc RO where
  sz := 8
  rd w B cs x := cs = [.int .i64 x.op] ++ ([.int .i64 x.a] ++ ([.int .i64 x.b] ++ ([.int .i64 x.c] ++ ([.int .i64 x.n] ++ ([.int .i64 x.exit] ++ ([.int .i64 x.k.1, .int .i64 x.k.2])))))) ∧ I64 x.op ∧ I64 x.a ∧ I64 x.b ∧ I64 x.c ∧ I64 x.n ∧ I64 x.exit ∧ I64 x.k.1 ∧ I64 x.k.2
  len h := by rw [h.1]; rfl
  keep h _ := h
  more h _ := h

theorem At.rO_ {w : World} {B : Nat} {A : Option Addr} {l : List RO} {k : Nat} (h : At w B A l) (hk : k < l.length) :
    ∃ b o x, A = some ⟨b, o, none⟩ ∧ b < B ∧ l[k]? = some x ∧ w.cell? ⟨b, o + k * 8, none⟩ = some (.int .i64 x.op) ∧ w.cell? ⟨b, o + k * 8 + 1, none⟩ = some (.int .i64 x.a) ∧ w.cell? ⟨b, o + k * 8 + 2, none⟩ = some (.int .i64 x.b) ∧ w.cell? ⟨b, o + k * 8 + 3, none⟩ = some (.int .i64 x.c) ∧ w.cell? ⟨b, o + k * 8 + 4, none⟩ = some (.int .i64 x.n) ∧ w.cell? ⟨b, o + k * 8 + 5, none⟩ = some (.int .i64 x.exit) ∧ w.cell? ⟨b, o + k * 8 + 6, none⟩ = some (.int .i64 x.k.1) ∧ w.cell? ⟨b, o + k * 8 + 7, none⟩ = some (.int .i64 x.k.2) ∧ I64 x.op ∧ I64 x.a ∧ I64 x.b ∧ I64 x.c ∧ I64 x.n ∧ I64 x.exit ∧ I64 x.k.1 ∧ I64 x.k.2 := by
  obtain ⟨x, hx⟩ : ∃ x, l[k]? = some x := ⟨l[k], List.getElem?_eq_getElem hk⟩
  obtain ⟨b, o, cs, rfl, hb, hc, hr⟩ := h k x hx
  obtain ⟨rfl, h0, h1, h2, h3, h4, h5, h6, h7⟩ := hr
  exact ⟨b, o, x, rfl, hb, hx, hc 0 _ rfl, hc 1 _ rfl, hc 2 _ rfl, hc 3 _ rfl, hc 4 _ rfl, hc 5 _ rfl, hc 6 _ rfl, hc 7 _ rfl, h0, h1, h2, h3, h4, h5, h6, h7⟩

structure RC where
  fn : Int
  at_ : Int
  loop : Int
  slots : Int
  orders : List RO
  exits : List RE
  turn : RE
  back : RE

instance : Enc RC where
  sz := 14
  rd w B cs x := ∃ (c_orders : Value) (c_exits : Value) (c_turn : List Value) (c_back : List Value), cs = [.int .i64 x.fn] ++ ([.int .i64 x.at_] ++ ([.int .i64 x.loop] ++ ([.int .i64 x.slots] ++ ([c_orders] ++ ([c_exits] ++ (c_turn ++ (c_back))))))) ∧ I64 x.fn ∧ I64 x.at_ ∧ I64 x.loop ∧ I64 x.slots ∧ Enc.rd w B [c_orders] x.orders ∧ Enc.rd w B [c_exits] x.exits ∧ Enc.rd w B c_turn x.turn ∧ Enc.rd w B c_back x.back
  len := by
    rintro w B cs x ⟨c_orders, c_exits, c_turn, c_back, rfl, h0, h1, h2, h3, h4, h5, h6, h7⟩
    have g6 := Enc.len h6
    have g7 := Enc.len h7
    simp only [List.length_append, List.length_cons, List.length_nil, g6, g7]
    rfl
  keep := by
    rintro w w2 B cs x ⟨c_orders, c_exits, c_turn, c_back, rfl, h0, h1, h2, h3, h4, h5, h6, h7⟩ hk
    exact ⟨_, _, _, _, rfl, h0, h1, h2, h3, Enc.keep h4 hk, Enc.keep h5 hk, Enc.keep h6 hk, Enc.keep h7 hk⟩
  more := by
    rintro w B B2 cs x ⟨c_orders, c_exits, c_turn, c_back, rfl, h0, h1, h2, h3, h4, h5, h6, h7⟩ hB
    exact ⟨_, _, _, _, rfl, h0, h1, h2, h3, Enc.more h4 hB, Enc.more h5 hB, Enc.more h6 hB, Enc.more h7 hB⟩

structure Gr where
  has : List (List Int)
  roots : List Int

instance : Enc Gr where
  sz := 2
  rd w B cs x := ∃ (c_has : Value) (c_roots : Value), cs = [c_has] ++ ([c_roots]) ∧ Enc.rd w B [c_has] x.has ∧ Enc.rd w B [c_roots] x.roots
  len := by
    rintro w B cs x ⟨c_has, c_roots, rfl, h0, h1⟩
    simp only [List.length_append, List.length_cons, List.length_nil]
  keep := by
    rintro w w2 B cs x ⟨c_has, c_roots, rfl, h0, h1⟩ hk
    exact ⟨_, _, rfl, Enc.keep h0 hk, Enc.keep h1 hk⟩
  more := by
    rintro w B B2 cs x ⟨c_has, c_roots, rfl, h0, h1⟩ hB
    exact ⟨_, _, rfl, Enc.more h0 hB, Enc.more h1 hB⟩

theorem At.gr_ {w : World} {B : Nat} {A : Option Addr} {l : List Gr} {k : Nat} (h : At w B A l) (hk : k < l.length) :
    ∃ b o x A_has c_has A_roots c_roots, A = some ⟨b, o, none⟩ ∧ b < B ∧ l[k]? = some x ∧ w.cell? ⟨b, o + k * 2, none⟩ = some (.slice A_has x.has.length c_has) ∧ w.cell? ⟨b, o + k * 2 + 1, none⟩ = some (.slice A_roots x.roots.length c_roots) ∧ At w B A_has x.has ∧ (x.has.length ≤ c_has ∧ c_has ≤ maxLen) ∧ At w B A_roots x.roots ∧ (x.roots.length ≤ c_roots ∧ c_roots ≤ maxLen) := by
  obtain ⟨x, hx⟩ : ∃ x, l[k]? = some x := ⟨l[k], List.getElem?_eq_getElem hk⟩
  obtain ⟨b, o, cs, rfl, hb, hc, hr⟩ := h k x hx
  obtain ⟨c_has, c_roots, rfl, h0, h1⟩ := hr
  obtain ⟨A_has, d_has, e0, l1_has, l2_has, -, at_has⟩ := h0
  injection e0 with e0; subst e0
  obtain ⟨A_roots, d_roots, e1, l1_roots, l2_roots, -, at_roots⟩ := h1
  injection e1 with e1; subst e1
  exact ⟨b, o, x, A_has, d_has, A_roots, d_roots, rfl, hb, hx, hc 0 _ rfl, hc 1 _ rfl, at_has, ⟨l1_has, l2_has⟩, at_roots, ⟨l1_roots, l2_roots⟩⟩

structure Hp where
  words : List U64
  roots : List U64

instance : Enc Hp where
  sz := 2
  rd w B cs x := ∃ (c_words : Value) (c_roots : Value), cs = [c_words] ++ ([c_roots]) ∧ Enc.rd w B [c_words] x.words ∧ Enc.rd w B [c_roots] x.roots
  len := by
    rintro w B cs x ⟨c_words, c_roots, rfl, h0, h1⟩
    simp only [List.length_append, List.length_cons, List.length_nil]
  keep := by
    rintro w w2 B cs x ⟨c_words, c_roots, rfl, h0, h1⟩ hk
    exact ⟨_, _, rfl, Enc.keep h0 hk, Enc.keep h1 hk⟩
  more := by
    rintro w B B2 cs x ⟨c_words, c_roots, rfl, h0, h1⟩ hB
    exact ⟨_, _, rfl, Enc.more h0 hB, Enc.more h1 hB⟩

theorem At.hp_ {w : World} {B : Nat} {A : Option Addr} {l : List Hp} {k : Nat} (h : At w B A l) (hk : k < l.length) :
    ∃ b o x A_words c_words A_roots c_roots, A = some ⟨b, o, none⟩ ∧ b < B ∧ l[k]? = some x ∧ w.cell? ⟨b, o + k * 2, none⟩ = some (.slice A_words x.words.length c_words) ∧ w.cell? ⟨b, o + k * 2 + 1, none⟩ = some (.slice A_roots x.roots.length c_roots) ∧ At w B A_words x.words ∧ (x.words.length ≤ c_words ∧ c_words ≤ maxLen) ∧ At w B A_roots x.roots ∧ (x.roots.length ≤ c_roots ∧ c_roots ≤ maxLen) := by
  obtain ⟨x, hx⟩ : ∃ x, l[k]? = some x := ⟨l[k], List.getElem?_eq_getElem hk⟩
  obtain ⟨b, o, cs, rfl, hb, hc, hr⟩ := h k x hx
  obtain ⟨c_words, c_roots, rfl, h0, h1⟩ := hr
  obtain ⟨A_words, d_words, e0, l1_words, l2_words, -, at_words⟩ := h0
  injection e0 with e0; subst e0
  obtain ⟨A_roots, d_roots, e1, l1_roots, l2_roots, -, at_roots⟩ := h1
  injection e1 with e1; subst e1
  exact ⟨b, o, x, A_words, d_words, A_roots, d_roots, rfl, hb, hx, hc 0 _ rfl, hc 1 _ rfl, at_words, ⟨l1_words, l2_words⟩, at_roots, ⟨l1_roots, l2_roots⟩⟩

structure De where
  do_ : Int
  a : Int
  b : Int
  n : Int

instance : Enc De where
  sz := 4
  rd w B cs x := cs = [.int .i64 x.do_] ++ ([.int .i64 x.a] ++ ([.int .i64 x.b] ++ ([.int .i64 x.n]))) ∧ I64 x.do_ ∧ I64 x.a ∧ I64 x.b ∧ I64 x.n
  len h := by rw [h.1]; rfl
  keep h _ := h
  more h _ := h

theorem At.de_ {w : World} {B : Nat} {A : Option Addr} {l : List De} {k : Nat} (h : At w B A l) (hk : k < l.length) :
    ∃ b o x, A = some ⟨b, o, none⟩ ∧ b < B ∧ l[k]? = some x ∧ w.cell? ⟨b, o + k * 4, none⟩ = some (.int .i64 x.do_) ∧ w.cell? ⟨b, o + k * 4 + 1, none⟩ = some (.int .i64 x.a) ∧ w.cell? ⟨b, o + k * 4 + 2, none⟩ = some (.int .i64 x.b) ∧ w.cell? ⟨b, o + k * 4 + 3, none⟩ = some (.int .i64 x.n) ∧ I64 x.do_ ∧ I64 x.a ∧ I64 x.b ∧ I64 x.n := by
  obtain ⟨x, hx⟩ : ∃ x, l[k]? = some x := ⟨l[k], List.getElem?_eq_getElem hk⟩
  obtain ⟨b, o, cs, rfl, hb, hc, hr⟩ := h k x hx
  obtain ⟨rfl, h0, h1, h2, h3⟩ := hr
  exact ⟨b, o, x, rfl, hb, hx, hc 0 _ rfl, hc 1 _ rfl, hc 2 _ rfl, hc 3 _ rfl, h0, h1, h2, h3⟩

end Go.Proofs.Ytljdnadejmkaeaa

/- order.Check, as plain Lean: which error an RCode has. -/
namespace Go.Proofs.Ytljdnadejmkaeaa
open Go.RowKit
namespace Ord

structure Form where
  rd : List Nat
  wr : Bool
  low : Int
  high : Int
  number : Bool
  k : Bool
  exit : Int

def formHeap (op : Int) : Option Form :=
  if op = 13 then some ⟨[1], true, 0, 99, false, false, 0⟩
  else if op = 14 then some ⟨[0, 1], false, 0, 99, false, false, 0⟩
  else if op = 15 then some ⟨[0, 1], false, 1, 1073741824, false, false, 2⟩
  else if op = 16 then some ⟨[1, 2], true, 0, 0, false, false, 2⟩
  else if op = 17 then some ⟨[0, 1, 2], false, 0, 0, false, false, 2⟩
  else if op = 18 then some ⟨[1], true, 0, 0, false, false, 0⟩
  else if op = 19 then some ⟨[], true, 1, 3, false, false, 2⟩
  else if op = 20 then some ⟨[0, 1], false, 0, 0, false, false, 1⟩
  else if op = 21 then some ⟨[], true, 0, 0, false, false, 2⟩
  else if op = 22 then some ⟨[], false, 0, 1073741824, true, false, 2⟩
  else none
/-- the form of an order, if it is one -/
def form (op : Int) : Option Form :=
  if op = 1 then some ⟨[1], true, 0, 0, false, false, 0⟩
  else if op = 2 then some ⟨[], true, 0, 0, false, true, 0⟩
  else if op = 3 then some ⟨[0], false, 0, 300, false, false, 0⟩
  else if op = 4 then some ⟨[], true, 0, 300, false, false, 0⟩
  else if op = 5 then some ⟨[], true, 0, 1073741824, false, false, 0⟩
  else if op = 6 then some ⟨[], true, 0, 0, false, false, 0⟩
  else if op = 7 then some ⟨[0], false, 0, 6, false, false, 2⟩
  else if op = 8 then some ⟨[0], false, 0, 1, false, false, 2⟩
  else if op = 9 then some ⟨[0], false, 0, 0, false, true, 2⟩
  else if op = 10 then some ⟨[1, 2], true, 3, 10, false, false, 1⟩
  else if op = 11 then some ⟨[1], true, 11, 12, false, false, 1⟩
  else if op = 12 then some ⟨[0], false, 1, 7, true, false, 2⟩
  else formHeap op

def form0 : Form := ⟨[], false, 0, 0, false, false, 0⟩
def theForm (op : Int) : Form := (form op).getD form0
/-- an order's fields A, B, C -/
def fld (x : RO) : Nat → Int
  | 0 => x.a
  | 1 => x.b
  | _ => x.c
def reads (x : RO) : List Int := (theForm x.op).rd.map (fld x)
def writes (x : RO) : Int := if (theForm x.op).wr then x.a else -1

structure St where
  regs : List Bool
  slots : List Bool

def isReg (n : Int) : Bool := decide (0 ≤ n ∧ n < 8)
def hasR (p : Int × Int) : Bool := (p.2 == -1 && decide (0 ≤ p.1)) && decide (p.1 < 8)
def hasS (n : Nat) (p : Int × Int) : Bool := (p.1 == -1 && decide (0 ≤ p.2)) && decide (p.2 < n)
def has (st : St) (p : Int × Int) : Bool :=
  if hasR p then st.regs.getD p.1.toNat false else if hasS st.slots.length p then st.slots.getD p.2.toNat false else false
def places (x : RE) : List (Int × Int) := x.sets.map (·.2) ++ x.makes.flatMap fun m => m.cell :: m.vals
def all_ (st : St) (x : RE) : Bool := !(places x).any fun p => !has st p

def used (f : Form) (i : Nat) : Bool := f.wr && i == 0 || f.number && i == 1 || f.rd.contains i
def idle (f : Form) (x : RO) : List Int := ([0, 1, 2].filter fun i => !used f i).map (fld x)
def boxBad (k : Int × Int) : Bool :=
  decide (k.1 < 0 ∨ 6 < k.1) || (k.1 != 3 && decide (k.2 < (if k.1 = 2 then -2147483648 else 0) ∨ (if k.1 = 0 then 0 else if k.1 = 1 then 1 else if k.1 = 2 then 2147483647 else 4294967295) < k.2))
def numOf (f : Form) (x : RO) : Bool := f.number && !(x.op == 12 && x.n != 1)
def withNum (f : Form) (b : Bool) : Form := ⟨f.rd, f.wr, f.low, f.high, b, f.k, f.exit⟩
def c4 (f : Form) (x : RO) : Bool := (idle (withNum f (numOf f x)) x).any (· != 0)
def c5 (f : Form) (x : RO) : Bool := numOf f x && (decide (x.b < 0) || decide (1073741824 < x.b))
def c7 (f : Form) (x : RO) : Bool := f.wr && !isReg x.a
def c8 (f : Form) (x : RO) : Bool := decide (x.n < f.low) || decide (f.high < x.n)
def c10 (f : Form) (x : RO) : Bool := !f.k && !(x.k.1 == 0 && x.k.2 == 0)
def c11 (f : Form) (x : RO) : Bool := f.k && boxBad x.k
def c13 (x : RO) (slots : Int) : Bool := (x.op == 3 || x.op == 4) && decide (slots ≤ x.n)
def c15 (f : Form) (x : RO) : Bool := f.exit == 0 || f.exit == 1 && x.exit == -1
def right (f : Form) (x : RO) (slots : Int) (nex : Nat) : Bool :=
  if c4 f x then false else if c5 f x then false else if c7 f x then false else if c8 f x then false else if c10 f x then false else if c11 f x then false
  else if c13 x slots then false else if c15 f x then x.exit == -1 else decide (0 ≤ x.exit) && decide (x.exit < nex)

def readOk (st : St) (r : Int) : Bool := isReg r && st.regs.getD r.toNat false
/-- what an order leaves written -/
def after (st : St) (x : RO) : St :=
  let s1 := if x.op = 3 then st.slots.set x.n.toNat true else st.slots
  let r1 := if 0 ≤ writes x then st.regs.set (writes x).toNat true else st.regs
  ⟨r1, s1⟩
def exitBad (st : St) (x : RO) (exits : List RE) : Bool := decide (0 ≤ x.exit) && !(match exits[x.exit.toNat]? with | some y => all_ st y | none => true)
/-- what is wrong with an order -/
def orderErr (st : St) (x : RO) (slots : Int) (exits : List RE) : Int :=
  if (form x.op).isNone then 7
  else if !right (theForm x.op) x slots exits.length then 3
  else if (reads x).any (fun r => !readOk st r) then 3
  else if x.op == 4 && !st.slots.getD x.n.toNat false then 3
  else if exitBad st x exits then 3
  else 0

def wide (m : RM) : Bool := decide (100 < (m.vals.length : Int))
def large (x : RE) : Bool := (decide (60 < (x.sets.length : Int)) || decide (300 < (x.makes.length : Int))) || x.makes.any wide
def bare (x : RE) : Bool := ((x.at_ == 0 && x.steps == 0) && (x.sets.length : Int) == 0) && (x.makes.length : Int) == 0
/-- do registers rise from one on, below the most? -/
def risingR : Int → List (Int × Int × Int) → Bool
  | _, [] => true
  | last, s :: l => !(decide (s.1 ≤ last) || decide (60 ≤ s.1)) && risingR s.1 l
def makeBad (m : RM) : Bool := ((decide (m.kind < 1) || decide (3 < m.kind)) || decide (m.num < 0)) || (decide (0 < m.num) && m.kind != 1)
def placeOk (slots : Int) (p : Int × Int) : Bool := (p.2 == -1 && isReg p.1) || ((p.1 == -1 && decide (0 ≤ p.2)) && decide (p.2 < slots))
def numsBad (x : RE) : Bool := (decide (x.at_ < 0) || decide (x.steps < 0)) || decide (200 < x.steps)
def formed (slots : Int) (x : RE) : Bool :=
  if numsBad x then false
  else if !risingR (-1) x.sets then false
  else if x.makes.any makeBad then false
  else !(places x).any fun p => !placeOk slots p

def allExits (c : RC) : List RE := c.turn :: c.back :: c.exits
def tooLarge (c : RC) : Bool := ((decide (1500 < (c.orders.length : Int)) || decide (200 < (c.exits.length : Int))) || decide (300 < c.slots)) || (allExits c).any large
def badNums (c : RC) : Bool := (((decide (c.slots < 0) || decide (c.fn < 0)) || decide (c.at_ < 0)) || decide (c.loop < 0)) || decide ((c.orders.length : Int) < c.loop)
def start (c : RC) : St := ⟨List.replicate 8 false, List.replicate c.slots.toNat false⟩
def turn0 (c : RC) : Bool := c.loop == 0 && bare c.turn
/-- what is written behind so many orders -/
def stK (c : RC) (k : Nat) : St := (c.orders.take k).foldl after (start c)
/-- is what the turn needs there, as far as so many orders tell? -/
def turnK (c : RC) (k : Nat) : Bool := if 0 < c.loop ∧ c.loop < k then all_ (stK c c.loop.toNat) c.turn else turn0 c
/-- the first error among so many orders -/
def errK (c : RC) : Nat → Int
  | 0 => 0
  | k + 1 => if errK c k ≠ 0 then errK c k else match c.orders[k]? with | some x => orderErr (stK c k) x c.slots c.exits | none => 0
def turnEnd (c : RC) : Bool := if 0 < c.loop ∧ c.loop = c.orders.length then all_ (stK c c.orders.length) c.turn else turnK c c.orders.length
def err (c : RC) : Int :=
  if tooLarge c then 2
  else if badNums c then 3
  else if errK c c.orders.length ≠ 0 then errK c c.orders.length
  else if !turnEnd c then 3
  else if !all_ (stK c c.orders.length) c.back then 3
  else if (allExits c).any (fun x => !formed c.slots x) then 3
  else 0

/-! ### bytes -/
/-- a number's sign to the last bit -/
def zig (n : Int) : Nat := if 0 ≤ n then n.toNat * 2 else (-(n + 1)).toNat * 2 + 1
def vb (u : Nat) : List Nat := if h : u < 128 then [u] else (u % 128 + 128) :: vb (u / 128)
termination_by u
decreasing_by omega
def numB (n : Int) : List Nat := vb (zig n)
def numsB (l : List Int) : List Nat := l.flatMap numB
def setNums (s : Int × Int × Int) : List Int := [s.1, s.2.1, s.2.2]
def makeNums (m : RM) : List Int := [m.cell.1, m.cell.2, m.kind, m.num, (m.vals.length : Int)] ++ m.vals.flatMap fun v => [v.1, v.2]
def exitNums (x : RE) : List Int := [x.at_, x.steps, (x.sets.length : Int)] ++ x.sets.flatMap setNums ++ [(x.makes.length : Int)] ++ x.makes.flatMap makeNums
def orderNums (x : RO) : List Int := [x.op, x.a, x.b, x.c, x.n, x.exit, x.k.1, x.k.2]
def codeNums (c : RC) : List Int := [c.fn, c.at_, c.loop, c.slots, (c.orders.length : Int)] ++ c.orders.flatMap orderNums ++ [(c.exits.length : Int)] ++ (c.exits ++ [c.turn, c.back]).flatMap exitNums
end Ord

end Go.Proofs.Ytljdnadejmkaeaa

/- Numbers as bytes: seven bits at a time. No program is named here. -/
namespace Go.Proofs.Ytljdnadejmkaeaa
open Go.RowKit

/-- a byte -/
structure U8 where
  val : Int
instance : Flat U8 where
  cells p := [.int .u8 p.val]
  sz := 1
  len _ := rfl
  ok p := 0 ≤ p.val ∧ p.val ≤ 255
theorem u8_one : ∀ x : U8, ∀ u ∈ Flat.cells x, u.oneCell' = true := by
  intro x u hu; simp [Flat.cells] at hu; subst hu; rfl

namespace Ord
def bys (l : List Nat) : List U8 := l.map fun (n : Nat) => (⟨n⟩ : U8)
theorem bys_append (a b : List Nat) : bys (a ++ b) = bys a ++ bys b := by simp [bys]
theorem bys_length (a : List Nat) : (bys a).length = a.length := by simp [bys]
theorem vb_lt {u : Nat} (h : u < 128) : vb u = [u] := by rw [vb]; simp [h]
theorem vb_ge {u : Nat} (h : ¬ u < 128) : vb u = (u % 128 + 128) :: vb (u / 128) := by rw [vb]; simp [h]
theorem vb_len : ∀ (k u : Nat), u < 128 ^ (k + 1) → (vb u).length ≤ k + 1
  | 0, u, h => by rw [vb_lt (by simpa using h)]; simp
  | k + 1, u, h => by
    by_cases hu : u < 128
    · rw [vb_lt hu]; simp
    · rw [vb_ge hu, List.length_cons]
      have := vb_len k (u / 128) (by rw [Nat.div_lt_iff_lt_mul (by decide)]; rw [Nat.pow_succ] at h; exact h)
      omega
theorem vb_len10 {u : Nat} (h : u < 18446744073709551616) : (vb u).length ≤ 10 := vb_len 9 u (Nat.lt_of_lt_of_le h (by decide +kernel))
theorem vb_pos (u : Nat) : 1 ≤ (vb u).length := by
  by_cases hu : u < 128
  · rw [vb_lt hu]; simp
  · rw [vb_ge hu]; simp
theorem vb_ok (u : Nat) : ∀ x ∈ vb u, x < 256 := by
  induction u using Nat.strongRecOn with
  | _ u ih =>
    by_cases hu : u < 128
    · rw [vb_lt hu]; intro x hx; simp at hx; omega
    · rw [vb_ge hu]
      intro x hx
      rcases List.mem_cons.1 hx with rfl | hx
      · omega
      · exact ih (u / 128) (by omega) x hx
theorem zig_lt {n : Int} (h : I64 n) : zig n < 18446744073709551616 := by
  unfold I64 at h; unfold zig; split <;> omega
theorem numB_len {n : Int} (h : I64 n) : (numB n).length ≤ 10 := vb_len10 (zig_lt h)
theorem bys_ok {l : List Nat} (h : ∀ x ∈ l, x < 256) : ∀ x ∈ bys l, Flat.ok x := by
  intro x hx
  unfold bys at hx
  obtain ⟨n, hn, rfl⟩ := List.mem_map.1 hx
  have := h n hn
  show (0 : Int) ≤ (n : Int) ∧ (n : Int) ≤ 255
  omega
theorem numB_ok (n : Int) : ∀ x ∈ numB n, x < 256 := vb_ok _
theorem numsB_ok (l : List Int) : ∀ x ∈ numsB l, x < 256 := by
  intro x hx
  obtain ⟨n, -, hn⟩ := List.mem_flatMap.1 hx
  exact numB_ok n x hn
theorem numsB_len {l : List Int} (h : ∀ x ∈ l, I64 x) : (numsB l).length ≤ l.length * 10 := by
  induction l with
  | nil => simp [numsB]
  | cons n l ih =>
    have h1 := numB_len (h n (by simp))
    have h2 := ih (fun x hx => h x (by simp [hx]))
    unfold numsB at h2 ⊢
    rw [List.flatMap_cons, List.length_append, List.length_cons]
    omega
theorem numsB_append (a b : List Int) : numsB (a ++ b) = numsB a ++ numsB b := by simp [numsB]
theorem numsB_nil : numsB [] = [] := rfl
theorem numsB_cons (n : Int) (l : List Int) : numsB (n :: l) = numB n ++ numsB l := by simp [numsB]
theorem numsB_take {l : List Int} {k : Nat} {x : Int} (h : l[k]? = some x) : numsB (l.take (k + 1)) = numsB (l.take k) ++ numB x := by
  rw [List.take_add_one, h, Option.toList_some, numsB_append]; simp [numsB]
theorem fm_take {α β : Type} (f : α → List β) {l : List α} {k : Nat} {x : α} (h : l[k]? = some x) : (l.take (k + 1)).flatMap f = (l.take k).flatMap f ++ f x := by
  rw [List.take_add_one, h, Option.toList_some, List.flatMap_append]; simp
theorem numsB_fm {α : Type} (f : α → List Int) (l : List α) : numsB (l.flatMap f) = l.flatMap fun x => numsB (f x) := by
  induction l with
  | nil => rfl
  | cons x l ih => rw [List.flatMap_cons, numsB_append, ih, List.flatMap_cons]
theorem fm_le {α β : Type} (f : α → List β) (l : List α) (n : Nat) (h : ∀ x ∈ l, (f x).length ≤ n) : (l.flatMap f).length ≤ l.length * n := by
  induction l with
  | nil => simp
  | cons x l ih =>
    have h1 := h x (by simp)
    have h2 := ih (fun y hy => h y (by simp [hy]))
    rw [List.flatMap_cons, List.length_append, List.length_cons, Nat.succ_mul]
    omega
end Ord

end Go.Proofs.Ytljdnadejmkaeaa

/-
  slices.Clone and the reference's Copy at plain element types: a list of the call's own that reads as the argument.
-/
namespace Go.Proofs.Ytljdnadejmkaeaa
open Go.RowKit

/-- what a copying call leaves: a slice of its own that holds the list -/
def Copied {α : Type} [Flat α] (E : TypeId) (l : List α) (w : World) (e : Ending) (w' : World) : Prop :=
  ∃ A' c', e = .returned (.slice A' l.length c') ∧ Own w' w.heap.size E A' c' l ∧ Below w.heap.size w w'

theorem own_new0 {α : Type} [Flat α] (w : World) (base : Nat) (E : TypeId) (cs : Array Value) (hcs : cs = #[]) (hb : base ≤ w.heap.size) : Own (α := α) (w.alloc (.cells cs E)) base E (some ⟨w.heap.size, 0, none⟩) 0 ([] : List α) :=
  World.ownsRow_made w cs 0 hb (by simp [maxLen]) (by simp [hcs])

theorem below_app {w w1 w' : World} {A : Option Addr} {B : Nat} (hb : Below B w w1) (hg : w1.grownBy w' (rowOf A)) (hB : B ≤ w1.heap.size) (hA : ∀ g, rowOf A = some g → B ≤ g) : Below B w w' := hb.grown hg hB hA

end Go.Proofs.Ytljdnadejmkaeaa

/- Elements of any type as plain rows of cells: 'Raw n'. A list that a slice reads as, of whatever type, reads as raw rows too; copying keeps the rows. -/
namespace Go.Proofs.Ytljdnadejmkaeaa
open Go.RowKit

structure Raw (n : Nat) where
  cs : List Value
  len : cs.length = n
  one : ∀ u ∈ cs, u.oneCell' = true

instance (n : Nat) : Flat (Raw n) where
  cells r := r.cs
  sz := n
  len r := r.len
  ok _ := True

def Raw.set {n : Nat} (r : Raw n) (j : Nat) (u : Value) (hu : u.oneCell' = true) : Raw n :=
  ⟨r.cs.set j u, by rw [List.length_set]; exact r.len, fun v hv => by
    rcases List.mem_or_eq_of_mem_set hv with h | h
    · exact r.one v h
    · rw [h]; exact hu⟩

theorem raw_one {n : Nat} : ∀ x : Raw n, ∀ u ∈ Flat.cells x, u.oneCell' = true := fun x u hu => x.one u hu

theorem At.raws {α : Type} [Enc α] {n : Nat} (hn : Enc.sz α = n) {w : World} {B : Nat} {A : Option Addr} {xs : List α} (h : At w B A xs)
    (hone : ∀ cs x, Enc.rd w B cs (x : α) → ∀ u ∈ cs, u.oneCell' = true) :
    ∃ rs : List (Raw n), rs.length = xs.length ∧ At w B A rs ∧ ∀ (i : Nat) (r : Raw n) (x : α), rs[i]? = some r → xs[i]? = some x → Enc.rd w B r.cs x := by
  subst hn
  have H : ∀ i : Fin xs.length, ∃ r : Raw (Enc.sz α), (∃ b o, A = some ⟨b, o, none⟩ ∧ b < B ∧ CellsAt w b (o + i.val * Enc.sz α) r.cs) ∧ Enc.rd w B r.cs xs[i.val] := by
    intro i
    obtain ⟨b, o, cs, hA, hb, hc, hr⟩ := h i.val xs[i.val] (List.getElem?_eq_getElem i.isLt)
    exact ⟨⟨cs, Enc.len hr, hone cs _ hr⟩, ⟨b, o, hA, hb, hc⟩, hr⟩
  obtain ⟨f, hf⟩ := Classical.axiomOfChoice H
  have get : ∀ (i : Nat) (r : Raw (Enc.sz α)), (List.ofFn f)[i]? = some r → ∃ hi : i < xs.length, r = f ⟨i, hi⟩ := by
    intro i r hr
    rw [List.getElem?_ofFn] at hr
    split at hr
    · rename_i hi
      injection hr with hr
      exact ⟨hi, hr.symm⟩
    · cases hr
  refine ⟨List.ofFn f, List.length_ofFn, fun i r hr => ?_, fun i r x hr hx => ?_⟩
  · obtain ⟨hi, rfl⟩ := get i r hr
    obtain ⟨⟨b, o, hA, hb, hc⟩, -⟩ := hf ⟨i, hi⟩
    exact ⟨b, o, (f ⟨i, hi⟩).cs, hA, hb, hc, rfl, trivial⟩
  · obtain ⟨hi, rfl⟩ := get i r hr
    have := (hf ⟨i, hi⟩).2
    have hx' : xs[i] = x := by rw [List.getElem?_eq_getElem hi] at hx; injection hx
    rw [← hx']; exact this

/-- one cell of an element stored -/
theorem Own.set_raw {n : Nat} {w : World} {base : Nat} {e : TypeId} {c : Nat} {l : List (Raw n)} {g i j : Nat} {x : Raw n} {u : Value} (h : Own w base e (some ⟨g, 0, none⟩) c l) (hx : l[i]? = some x) (hj : j < n) (hu : u.oneCell' = true) :
    Own (w.setCell ⟨g, i * n + j, none⟩ u) base e (some ⟨g, 0, none⟩) c (l.set i (x.set j u hu)) := h.set_ rfl hx hj rfl

theorem Own.raw_cell {n : Nat} {w : World} {base : Nat} {e : TypeId} {c : Nat} {l : List (Raw n)} {g : Nat} (h : Own w base e (some ⟨g, 0, none⟩) c l) {i j : Nat} {x : Raw n} {u : Value} (hx : l[i]? = some x) (hu : x.cs[j]? = some u) : w.cell? ⟨g, i * n + j, none⟩ = some u := by
  have hj : j < n := by have := (List.getElem?_eq_some_iff.1 hu).1; rw [x.len] at this; exact this
  have := h.cells_ (g := g) (o := 0) rfl (i * n + j) u ((flat_get l i j x hx hj).trans hu)
  rw [Nat.zero_add] at this; exact this
theorem Raw.has {n : Nat} (x : Raw n) (j : Nat) (hj : j < n) : ∃ u, x.cs[j]? = some u := ⟨_, List.getElem?_eq_getElem (by rw [x.len]; exact hj)⟩
theorem At.raw_cell {n : Nat} {w : World} {B : Nat} {b o : Nat} {l : List (Raw n)} (h : At w B (some ⟨b, o, none⟩) l) {i j : Nat} {x : Raw n} {u : Value} (hx : l[i]? = some x) (hu : x.cs[j]? = some u) : w.cell? ⟨b, o + i * n + j, none⟩ = some u := by
  obtain ⟨b', o', cs, hA, hb, hc, hr, -⟩ := h i x hx
  injection hA with hA; injection hA with h1 h2; subst h1 h2 hr
  exact hc j u hu

/-- two cells of an element stored: some raw row is owned -/
theorem Own.set_raw2 {n : Nat} {w : World} {base : Nat} {e : TypeId} {c : Nat} {l : List (Raw n)} {g i j k : Nat} {x : Raw n} {u v : Value} (h : Own w base e (some ⟨g, 0, none⟩) c l) (hx : l[i]? = some x) (hj : j < n) (hk : k < n) (hu : u.oneCell' = true) (hv : v.oneCell' = true) :
    Own ((w.setCell ⟨g, i * n + j, none⟩ u).setCell ⟨g, i * n + k, none⟩ v) base e (some ⟨g, 0, none⟩) c (l.set i ((x.set j u hu).set k v hv)) := by
  have hi : i < l.length := (List.getElem?_eq_some_iff.1 hx).1
  have h1 := h.set_raw hx hj hu
  have h2 := h1.set_raw (i := i) (x := x.set j u hu) (by rw [List.getElem?_set_self hi]) hk hv
  rw [List.set_set] at h2
  exact h2

theorem raw_ext {n : Nat} {a b : Raw n} (h : a.cs = b.cs) : a = b := by cases a; cases b; cases h; rfl
/-- a struct of four cells stored into an owned row -/
theorem Own.set_raw4 {w : World} {base : Nat} {e : TypeId} {c : Nat} {l : List (Raw 4)} {g i : Nat} {x : Raw 4} {u0 u1 u2 u3 : Value} (h : Own w base e (some ⟨g, 0, none⟩) c l) (hx : l[i]? = some x) (r : Raw 4) (hr : r.cs = [u0, u1, u2, u3]) :
    Own ((((w.setCell ⟨g, i * 4, none⟩ u0).setCell ⟨g, i * 4 + 1, none⟩ u1).setCell ⟨g, i * 4 + 2, none⟩ u2).setCell ⟨g, i * 4 + 3, none⟩ u3) base e (some ⟨g, 0, none⟩) c (l.set i r) := by
  have hi : i < l.length := (List.getElem?_eq_some_iff.1 hx).1
  have o0 := r.one u0 (by rw [hr]; simp)
  have o1 := r.one u1 (by rw [hr]; simp)
  have o2 := r.one u2 (by rw [hr]; simp)
  have o3 := r.one u3 (by rw [hr]; simp)
  have h0 := h.set_raw (j := 0) hx (by decide) o0
  have h1 := h0.set_raw (i := i) (j := 1) (x := x.set 0 u0 o0) (by rw [List.getElem?_set_self hi]) (by decide) o1
  rw [List.set_set] at h1
  have h2 := h1.set_raw (i := i) (j := 2) (x := (x.set 0 u0 o0).set 1 u1 o1) (by rw [List.getElem?_set_self hi]) (by decide) o2
  rw [List.set_set] at h2
  have h3 := h2.set_raw (i := i) (j := 3) (x := ((x.set 0 u0 o0).set 1 u1 o1).set 2 u2 o2) (by rw [List.getElem?_set_self hi]) (by decide) o3
  rw [List.set_set] at h3
  have hcs : (((x.set 0 u0 o0).set 1 u1 o1).set 2 u2 o2).set 3 u3 o3 = r := by
    apply raw_ext
    obtain ⟨cs, hlen, hone⟩ := x
    rcases cs with _ | ⟨a, _ | ⟨b, _ | ⟨c', _ | ⟨d, _ | ⟨f, cs⟩⟩⟩⟩⟩ <;> simp at hlen
    rw [hr]; rfl
  rw [hcs] at h3
  exact h3

/-- lists of flat data over a store into another block -/
theorem At.far_ {α : Type} [Flat α] {w : World} {B : Nat} {A : Option Addr} {xs : List α} (h : At w B A xs) {p : Addr} (hp : rowOf A ≠ some p.block) (u : Value) : At (w.setCell p u) B A xs := by
  intro i x hx
  obtain ⟨b, o, cs, rfl, hb, hc, hr⟩ := h i x hx
  exact ⟨b, o, cs, rfl, hb, hc.keep fun q hq => World.cell?_setCell_other w p q u (fun e => hp (by subst e; simp [rowOf, hq])), hr⟩
theorem At.grown_ {α : Type} [Flat α] {w w' : World} {B : Nat} {A : Option Addr} {xs : List α} (h : At w B A xs) (hB : B ≤ w.heap.size) {row : Option Nat} (hg : w.grownBy w' row) (hr : ∀ g, rowOf A = some g → row ≠ some g) : At w' B A xs := by
  intro i x hx
  obtain ⟨b, o, cs, rfl, hb, hc, hr'⟩ := h i x hx
  refine ⟨b, o, cs, rfl, hb, hc.keep fun q hq => ?_, hr'⟩
  unfold World.cell?
  rw [hq, hg.block b (by omega) (fun e => hr b rfl e.symm)]

end Go.Proofs.Ytljdnadejmkaeaa

/- Lists of bools, of ints, of lists: cells read and stored; rows of different types are apart. -/
namespace Go.Proofs.Ytljdnadejmkaeaa
open Go.RowKit

instance : Flat Bool where
  cells b := [.bool b]
  sz := 1
  len _ := rfl
  ok _ := True
theorem bool_one : ∀ x : Bool, ∀ u ∈ Flat.cells x, u.oneCell' = true := by
  intro x u hu; simp [Flat.cells] at hu; subst hu; rfl

theorem At.bool_ {w : World} {B : Nat} {A : Option Addr} {l : List Bool} {k : Nat} (h : At w B A l) (hk : k < l.length) :
    ∃ b o x, A = some ⟨b, o, none⟩ ∧ b < B ∧ l[k]? = some x ∧ w.cell? ⟨b, o + k, none⟩ = some (.bool x) := by
  obtain ⟨x, hx⟩ : ∃ x, l[k]? = some x := ⟨l[k], List.getElem?_eq_getElem hk⟩
  obtain ⟨b, o, cs, rfl, hb, hc, rfl, hok⟩ := h k x hx
  have h0 := hc 0 _ rfl
  simp only [Flat.sz, Enc.sz, Nat.mul_one, Nat.add_zero] at h0
  exact ⟨b, o, x, rfl, hb, hx, h0⟩
theorem At.slice_ {α : Type} [Enc α] {w : World} {B : Nat} {A : Option Addr} {l : List (List α)} {k : Nat} (h : At w B A l) (hk : k < l.length) :
    ∃ b o x A' c', A = some ⟨b, o, none⟩ ∧ b < B ∧ l[k]? = some x ∧ w.cell? ⟨b, o + k, none⟩ = some (.slice A' x.length c') ∧ At w B A' x ∧ x.length ≤ c' ∧ c' ≤ maxLen := by
  obtain ⟨x, hx⟩ : ∃ x, l[k]? = some x := ⟨l[k], List.getElem?_eq_getElem hk⟩
  obtain ⟨b, o, cs, rfl, hb, hc, A', c', rfl, h1, h2, -, h3⟩ := h k x hx
  have h0 := hc 0 _ rfl
  rw [show o + k * Enc.sz (List α) + 0 = o + k from by show o + k * 1 + 0 = o + k; omega] at h0
  exact ⟨b, o, x, A', c', rfl, hb, hx, h0, h3, h1, h2⟩
theorem At.nil_len {α : Type} [Enc α] {w : World} {B : Nat} {l : List α} (h : At w B none l) : l = [] := by
  rcases l with _ | ⟨x, l⟩
  · rfl
  · obtain ⟨b, o, cs, hA, -⟩ := h 0 x rfl
    cases hA

section
variable {α β : Type} [Flat α] [Flat β] {w : World} {base base' : Nat} {e e' : TypeId} {A A' : Option Addr} {c c' : Nat} {l : List α} {l' : List β}
theorem own_ne_ty (h : Own w base e A c l) {g : Nat} {t : TypeId} {cs : Array Value} (hg : Blk w g t cs) (hne : e ≠ t) : rowOf A ≠ some g := by
  intro hA
  rcases h.2 with ⟨h1, _⟩ | ⟨g', cap, cur, hv, _, hh, _⟩
  · injection h1 with h3; rw [h3] at hA; cases hA
  · injection hv with h3; rw [h3] at hA; injection hA with hA; simp only at hA; subst hA
    unfold Blk at hg
    rw [hh] at hg
    injection hg with hg; injection hg with _ hg _
    exact hne hg
theorem own_own_ty (h : Own w base e A c l) (h' : Own w base' e' A' c' l') (hne : e ≠ e') : ∀ g, rowOf A = some g → rowOf A' ≠ some g := by
  intro g hA hA'
  rcases h'.2 with ⟨h1, _⟩ | ⟨g', cap, cur, hv, _, hh, _⟩
  · injection h1 with h3; rw [h3] at hA'; cases hA'
  · injection hv with h3; rw [h3] at hA'; injection hA' with hA'; simp only at hA'; subst hA'
    rcases h.2 with ⟨h1, _⟩ | ⟨g2, cap2, cur2, hv2, _, hh2, _⟩
    · injection h1 with h3; rw [h3] at hA; cases hA
    · injection hv2 with h3; rw [h3] at hA; injection hA with hA; simp only at hA; subst hA
      rw [hh] at hh2
      injection hh2 with hh2; injection hh2 with _ hh2 _
      exact hne hh2.symm
theorem flat_take (l : List α) (k : Nat) (hk : k ≤ l.length) : (flat l).take (k * Flat.sz α) = flat (l.take k) := by
  have h := flat_append (l.take k) (l.drop k)
  rw [List.take_append_drop] at h
  rw [h, List.take_left' (by rw [flat_length, List.length_take, Nat.min_eq_left hk])]
theorem Own.take_ (h : Own w base e A c l) (k : Nat) (hk : k ≤ l.length) : Own w base e A c (l.take k) := by
  have hl : (l.take k).length = k := by rw [List.length_take]; omega
  have hf := flat_take l k hk
  refine ⟨flat_length _, ?_⟩
  rw [hl]
  rcases h.2 with ⟨h1, h2⟩ | ⟨g, cap, cur, hv, hg, hh, h1, h2, h3, h4⟩
  · injection h1 with h3 h4 h5
    have : k = 0 := by omega
    subst this
    exact .inl ⟨by rw [h3, h5], rfl⟩
  · injection hv with h5 _ h6
    subst h6
    refine .inr ⟨g, c, cur, by rw [h5], hg, hh, by omega, h2, h3, ?_⟩
    rw [← hf, ← h4, List.take_take, Nat.min_eq_left (Nat.mul_le_mul_right _ hk)]
theorem Own.ok_take {k : Nat} (h : ∀ x ∈ l, Flat.ok x) : ∀ x ∈ l.take k, Flat.ok x := fun x hx => h x (List.mem_of_mem_take hx)
end

theorem Own.set_bool {w : World} {base : Nat} {e : TypeId} {c : Nat} {l : List Bool} {g i : Nat} (b : Bool) (h : Own w base e (some ⟨g, 0, none⟩) c l) (hi : i < l.length) : Own (w.setCell ⟨g, i, none⟩ (.bool b)) base e (some ⟨g, 0, none⟩) c (l.set i b) := by
  have := h.set_ (i := i) (j := 0) (x := l[i]) (y := b) (u := .bool b) rfl (List.getElem?_eq_getElem hi) (by decide) rfl
  simpa [Flat.sz] using this
theorem Own.set_int {w : World} {base : Nat} {e : TypeId} {c : Nat} {l : List Int} {g i : Nat} (b : Int) (h : Own w base e (some ⟨g, 0, none⟩) c l) (hi : i < l.length) : Own (w.setCell ⟨g, i, none⟩ (.int .i64 b)) base e (some ⟨g, 0, none⟩) c (l.set i b) := by
  have := h.set_ (i := i) (j := 0) (x := l[i]) (y := b) (u := .int .i64 b) rfl (List.getElem?_eq_getElem hi) (by decide) rfl
  simpa [Flat.sz] using this
theorem Own.cell_bool {w : World} {base : Nat} {e : TypeId} {c : Nat} {l : List Bool} {g i : Nat} {b : Bool} (h : Own w base e (some ⟨g, 0, none⟩) c l) (hi : l[i]? = some b) : w.cell? ⟨g, i, none⟩ = some (.bool b) := by
  have := h.cells_ (g := g) (o := 0) rfl (i * 1 + 0) (.bool b) (flat_get l i 0 b hi (by decide))
  simpa using this
theorem Own.cell_int {w : World} {base : Nat} {e : TypeId} {c : Nat} {l : List Int} {g i : Nat} {b : Int} (h : Own w base e (some ⟨g, 0, none⟩) c l) (hi : l[i]? = some b) : w.cell? ⟨g, i, none⟩ = some (.int .i64 b) := by
  have := h.cells_ (g := g) (o := 0) rfl (i * 1 + 0) (.int .i64 b) (flat_get l i 0 b hi (by decide))
  simpa using this

end Go.Proofs.Ytljdnadejmkaeaa

/- Rows of the call's own cut short in place: clear of a tail, append within the room. No program is named here. -/
namespace Go.Proofs.Ytljdnadejmkaeaa
open Go.RowKit

theorem grownBy_setCell (w : World) (g o : Nat) (u : Value) : w.grownBy (w.setCell ⟨g, o, none⟩ u) (some g) :=
  ⟨rfl, rfl, rfl, by simp [World.setCell], fun k _ hk => Below.heap_setCell w ⟨g, o, none⟩ u k (fun e => hk (by rw [e]))⟩
theorem grownBy_setCells (g : Nat) : ∀ (vs : List Value) (o : Nat) (w : World), w.grownBy (w.setCells g o vs) (some g)
  | [], _, w => World.grownBy.refl w _
  | v :: r, o, w => (grownBy_setCell w g o v).trans (grownBy_setCells g r (o + 1) _)
theorem grownBy_drew (w : World) (row : Option Nat) : w.grownBy w.drew row := ⟨rfl, rfl, rfl, Nat.le_refl _, fun _ _ _ => rfl⟩
theorem grownBy_drewN {w w' : World} {row : Option Nat} (h : w.grownBy w' row) (n : Nat) : w.grownBy (w'.drewN n) row := ⟨h.os, h.tape, h.output, h.size, h.block⟩
theorem grownBy_undrew {w w' : World} {row : Option Nat} (h : w.drew.grownBy w' row) : w.grownBy w' row := ⟨h.os, h.tape, h.output, h.size, h.block⟩
theorem grownBy_below {w w' : World} (row : Option Nat) (h : Below w.heap.size w w') : w.grownBy w' row := ⟨h.os, h.tape, h.output, h.size, fun k hk _ => h.block k hk⟩
theorem below_grown {w w' : World} {B g : Nat} (h : w.grownBy w' (some g)) (hB : B ≤ g) (hBw : B ≤ w.heap.size) : Below B w w' := (Below.refl _ _).grown h hBw (fun k hk => by injection hk with hk; omega)

section
variable {α : Type} [Flat α] {w : World} {base : Nat} {e : TypeId} {c g : Nat} {l : List α}
theorem Own.setCell_tail (h : Own w base e (some ⟨g, 0, none⟩) c l) {j : Nat} (hj : l.length * Flat.sz α ≤ j) (u : Value) : Own (w.setCell ⟨g, j, none⟩ u) base e (some ⟨g, 0, none⟩) c l := by
  refine ⟨h.1, ?_⟩
  rcases h.2 with ⟨h1, _⟩ | ⟨g', cap, cur, hv, hg, hh, h1, h2, h3, h4⟩
  · injection h1 with h1; cases h1
  · injection hv with h5 _ h6; injection h5 with h5; injection h5 with h5; subst h5 h6
    refine .inr ⟨g, c, cur.setIfInBounds j u, rfl, hg, ?_, h1, h2, by rw [Array.size_setIfInBounds]; exact h3, ?_⟩
    · simp [World.setCell, Array.getElem?_modify, hh]
    · rw [Array.toList_setIfInBounds, List.take_set_of_le hj, h4]
theorem Own.setCells_tail : ∀ (vs : List Value) (j : Nat) (w : World), Own w base e (some ⟨g, 0, none⟩) c l → l.length * Flat.sz α ≤ j → Own (w.setCells g j vs) base e (some ⟨g, 0, none⟩) c l
  | [], _, _, h, _ => h
  | v :: r, j, w, h, hj => Own.setCells_tail r (j + 1) _ (h.setCell_tail hj v) (by omega)
theorem Own.some_cell (h : Own w base e (some ⟨g, 0, none⟩) c l) {j : Nat} (hj : j < c * Flat.sz α) : (w.cell? ⟨g, j, none⟩).isSome = true := by
  rcases h.2 with ⟨h1, _⟩ | ⟨g', cap, cur, hv, hg, hh, h1, h2, h3, h4⟩
  · injection h1 with h1; cases h1
  · injection hv with h5 _ h6; injection h5 with h5; injection h5 with h5; subst h5 h6
    rw [cell_of_row w g j cur e (0, 0) hh, Array.getElem?_eq_getElem (by omega)]
    rfl

theorem run_clear_own {P : Program} (h : Own w base e (some ⟨g, 0, none⟩) c l) (k : Nat) (hk : k ≤ l.length) (t ty : TypeId) (ht : P.underlying t = some (.slice e)) (z : Value) (hv : ∀ w, (zeroValue e).run P w = .ok z w) (hzs : z.cells.size = Flat.sz α)
    (hz1 : z.cells.toList.all (·.oneCell') = true) (X : Option Addr) (n c' : Nat) (hroom : k + n ≤ c) (hX : 0 < n → X = some ⟨g, k * Flat.sz α, none⟩) :
    ∃ w', (Builtin.clear_ #[t] ty #[.slice X n c']).run P w = .ok (.tuple #[]) w' ∧ Own w' base e (some ⟨g, 0, none⟩) c (l.take k) ∧ w.grownBy w' (some g) := by
  rcases Nat.lt_or_ge 0 n with hlt | hge
  · rw [hX hlt]
    obtain ⟨m, hm⟩ : ∃ m, n = m + 1 := ⟨n - 1, by omega⟩
    have hlen : (Builtin.zeroCells z.cells n).toList.length = n * Flat.sz α := by simp [Builtin.zeroCells, hzs]
    have hle : k * Flat.sz α + n * Flat.sz α ≤ c * Flat.sz α := by rw [← Nat.add_mul]; exact Nat.mul_le_mul_right _ (by omega)
    have hst := run_storeCells_cells (P := P) g (k * Flat.sz α) (Builtin.zeroCells z.cells n).toList 0 w
      (fun j hj => by rw [hlen] at hj; exact h.some_cell (by omega)) (fun j _ => h.frozen rfl _) (fun v hv' => by
        simp only [Builtin.zeroCells, Array.toList_map, List.mem_map] at hv'
        obtain ⟨i, hi, rfl⟩ := hv'
        have hpos : 0 < z.cells.size := by
          rcases Nat.eq_zero_or_pos z.cells.size with h0 | h0
          · simp [h0] at hi
          · exact h0
        rw [getElem!_pos z.cells _ (Nat.mod_lt _ hpos)]
        exact List.all_eq_true.1 hz1 _ (by simp))
    simp only [Nat.add_zero] at hst
    refine ⟨w.setCells g (k * Flat.sz α) (Builtin.zeroCells z.cells n).toList, ?_, Own.setCells_tail _ (k * Flat.sz α) w (h.take_ k hk) (by rw [List.length_take, Nat.min_eq_left hk]; exact Nat.le_refl _), grownBy_setCells g _ _ _⟩
    · subst hm
      simp [Builtin.clear_, run_underlying ht, hv, hst]
  · have h0 : n = 0 := by omega
    subst h0
    refine ⟨w, ?_, h.take_ k hk, World.grownBy.refl w _⟩
    cases X <;> simp [Builtin.clear_, run_underlying ht]

theorem wpList_clear_own {P : Program} {ops : Array Oper} {rest : List Oper} {o : Oper} {a : Act} {Q : Exit → Act → World → Prop} (hgd : o.guard = none) (x : Operand) (t : TypeId)
    (ho : o.op = .call { callee := .builtin .clear, args := #[x], argTypes := #[t] }) (ht : P.underlying t = some (.slice e)) (z : Value) (hv : ∀ w, (zeroValue e).run P w = .ok z w) (hzs : z.cells.size = Flat.sz α)
    (hz1 : z.cells.toList.all (·.oneCell') = true) (h : Own w base e (some ⟨g, 0, none⟩) c l) (k : Nat) (hk : k ≤ l.length) {X : Option Addr} {n c' : Nat} (hx : a.eval x = .slice X n c') (hroom : k + n ≤ c) (hX : 0 < n → X = some ⟨g, k * Flat.sz α, none⟩)
    (hK : ∀ w', Own w' base e (some ⟨g, 0, none⟩) c (l.take k) → w.grownBy w' (some g) → wpList P ops Q rest (a.put o.dst (.tuple #[])) w') : wpList P ops Q (o :: rest) a w := by
  refine wpList_plain hgd fun K hK' => ?_
  obtain ⟨w', hrun, h2, h3⟩ := run_clear_own (P := P) h k hk t o.type ht z hv hzs hz1 X n c' hroom hX
  unfold Oper.wp execOp
  simp only [ho, resolve, invoke, builtin, Sem.run_bind, Sem.run_pure, Result.andThen_ok, List.map_toArray, List.map_cons, List.map_nil, hx, hrun]
  exact hK' _ _ (hK w' h2 h3)

theorem step_app_fits {P : Program} {ops : Array Oper} {o : Oper} {a : Act} {K : Act → World → Prop} {Q : Exit → Act → World → Prop} {E : Prop} (hgd : o.guard = none) (s x : Operand) (t : TypeId)
    (ho : o.op = .call { callee := .builtin .append, args := #[s, x], argTypes := #[t, t] }) (i : TypeInfo) (ht : P.underlying t = some (.slice e)) (hi : P.info? e = some i) (hsize : i.size = Flat.sz α) (hone : ∀ x : α, ∀ u ∈ Flat.cells x, u.oneCell' = true)
    {n : Nat} (hs : a.eval s = .slice (some ⟨g, 0, none⟩) n c) (hn : l.length = n) (hown : Own w base e (some ⟨g, 0, none⟩) c l) {ad : Addr} {m d : Nat} {r : List α} (hx : a.eval x = .slice (some ad) m d) (hm : r.length = m)
    (hc : ∀ j u, (flat r)[j]? = some u → w.cell? (ad.add j) = some u) {nm : Nat} (hnm : n + m = nm) (hroom : nm ≤ c)
    (h : ∀ w', Own w' base e (some ⟨g, 0, none⟩) c (l ++ r) → w.grownBy w' (some g) → K (a.put o.dst (.slice (some ⟨g, 0, none⟩) nm c)) w') :
    if Region.wanted o (yielded ops a.tmps) = true then Oper.wp P o a w K Q else E := by
  have hw : Region.wanted o (yielded ops a.tmps) = true := by simp [Region.wanted, hgd]
  rw [if_pos hw]
  subst hn hm hnm
  obtain ⟨w', hrun, h2, h3⟩ := run_append_fits (P := P) w base t o.type e i (Flat.sz α) ht hi hsize g l.length c (flat l) hown ad r.length d (flat r) (flat_length r) hc (fun u hu => by
    unfold flat at hu
    obtain ⟨y, -, hy⟩ := List.mem_flatMap.1 hu
    exact hone y u hy) hroom
  unfold Oper.wp execOp
  simp only [ho, resolve, invoke, builtin, Sem.run_bind, Sem.run_pure, Result.andThen_ok, List.map_toArray, List.map_cons, List.map_nil, hs, hx, hrun]
  refine h w' ?_ h3
  unfold Own
  rw [List.length_append, flat_append]
  exact h2
end

/-- a predicate that lays only blocks of its own, asked while one row is written -/
def PredQ (P : Program) (g : Nat) (lb : Array Value) {α : Type} [Flat α] (v : α → Value) (p : α → Bool) (l : List α) (row : Option Nat) (w : World) : Prop :=
  ∀ (W : World) (x : α), x ∈ l → Flat.ok x → w.grownBy W row → Calls P g (#[v x] ++ lb) W fun e W' => e = .returned (.bool (p x)) ∧ Below W.heap.size W W'

end Go.Proofs.Ytljdnadejmkaeaa

/- append as a step of a region that draws; a list cut at its head. No program is named here. -/
namespace Go.Proofs.Ytljdnadejmkaeaa
open Go.RowKit

theorem At.drop_ {α : Type} [Enc α] {w : World} {B b o : Nat} {l : List α} (h : At w B (some ⟨b, o, none⟩) l) (k : Nat) : At w B (some ⟨b, o + k * Enc.sz α, none⟩) (l.drop k) := by
  intro i x hx
  rw [List.getElem?_drop] at hx
  obtain ⟨b', o', cs, hA, hb, hc, hr⟩ := h (k + i) x hx
  injection hA with hA; injection hA with h1 h2; subst h1 h2
  refine ⟨b, _, cs, rfl, hb, ?_, hr⟩
  rw [Nat.add_assoc, ← Nat.add_mul]; exact hc
theorem At.cut_ {α : Type} [Enc α] {w : World} {B b o c k : Nat} {l : List α} {A : Option Addr} (h : At w B (some ⟨b, o, none⟩) l) (hl : l.length ≤ c) (hA : (if c = k then some (⟨b, o, none⟩ : Addr) else some ⟨b, o + k * Enc.sz α, none⟩) = A) : At w B A (l.drop k) := by
  subst hA
  split
  · have : l.drop k = [] := List.drop_eq_nil_of_le (by omega)
    rw [this]; exact At.nil_
  · exact h.drop_ k

theorem step_app {α : Type} [Flat α] {P : Program} {w : World} {ops : Array Oper} {o : Oper} {a : Act} {K : Act → World → Prop} {Q : Exit → Act → World → Prop} {E : Prop} (hgd : o.guard = none) (s x : Operand) (t : TypeId)
    (ho : o.op = .call { callee := .builtin .append, args := #[s, x], argTypes := #[t, t] })
    (base : Nat) (e : TypeId) (i : TypeInfo) (z : Value) (bytes : Nat) (ht : P.underlying t = some (.slice e)) (hi : P.info? e = some i) (hz : i.zero = some z)
    (hsize : i.size = Flat.sz α) (hby : i.bytes = bytes) (hzs : z.cells.size = Flat.sz α) (hsz : 0 < Flat.sz α) (hone : ∀ x : α, ∀ u ∈ Flat.cells x, u.oneCell' = true)
    {A : Option Addr} {n c : Nat} {l : List α} (hs : a.eval s = .slice A n c) (hn : l.length = n) (hown : Own w base e A c l) {B : Nat} {X : Option Addr} {m d : Nat} {r : List α} (hx : a.eval x = .slice X m d) (hr : At w B X r) (hm : r.length = m) {nm : Nat} (hnm : n + m = nm)
    (hbytes : nm * bytes ≤ 140737488355328) (h63 : nm ≤ maxLen) (hbase : base ≤ w.heap.size)
    (h : ∀ A' c' w', Own w' base e A' c' (l ++ r) → w.grownBy w' (rowOf A) → (rowOf A' = rowOf A ∨ rowOf A' = some w.heap.size) → K (a.put o.dst (.slice A' nm c')) w') :
    if Region.wanted o (yielded ops a.tmps) = true then Oper.wp P o a w K Q else E := by
  have hw : Region.wanted o (yielded ops a.tmps) = true := by simp [Region.wanted, hgd]
  rw [if_pos hw]
  subst hn hnm
  obtain ⟨A', c', w', hrun, h2, h3, h4⟩ := run_app (α := α) (P := P) w base t o.type e i z bytes ht hi hz hsize hby hzs hsz hone hown hr hm hbytes h63 hbase
  unfold Oper.wp execOp
  simp only [ho, resolve, invoke, builtin, Sem.run_bind, Sem.run_pure, Result.andThen_ok, List.map_toArray, List.map_cons, List.map_nil, hs, hx]
  rw [hrun]
  exact h A' c' w' h2 h3 h4

end Go.Proofs.Ytljdnadejmkaeaa
