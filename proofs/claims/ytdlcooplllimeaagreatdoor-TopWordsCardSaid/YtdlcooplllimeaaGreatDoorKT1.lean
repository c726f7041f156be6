/- KT: Base, Rowz, Types, TypesT, WordsL, Clone, Raws, Slc, Tch, Kep, TopC. -/
import Derived.WalkKit
import Derived.WalkLawsBesides
import Derived.WalkSpells
import Derived.Lib.Hide
import Derived.Laws.OwnMore
import Derived.Maps.AppendAt
import Derived.Deep.AppendLies
import Derived.Deep.Draws
import Derived.Deep.Slices
/-
  The words by which this family's contracts speak of memory: Go's data as Lean's ('Enc'), a slice that reads as a list ('At'), rows of the call's own. No program is named here.
-/
namespace Go.Proofs.YtdlcooplllimeaaGreatDoor
open Go.RowKit

/-- a number that an int holds -/
def I64 (n : Int) : Prop := -9223372036854775808 ≤ n ∧ n ≤ 9223372036854775807

theorem block_of_add (a : Addr) (n : Nat) : (a.add n).block = a.block := by unfold Addr.add; split <;> rfl
theorem add_of_add (a : Addr) (i j : Nat) : (a.add i).add j = a.add (i + j) := by
  unfold Addr.add
  by_cases hi : i = 0 <;> by_cases hj : j = 0 <;> simp [hi, hj, Nat.add_assoc]
theorem add_mk (b o n : Nat) : (⟨b, o, none⟩ : Addr).add n = ⟨b, o + n, none⟩ := by
  unfold Addr.add; split <;> simp_all

/-- the cells cs stand from offset o of block b on -/
def CellsAt (w : World) (b o : Nat) (cs : List Value) : Prop := ∀ j u, cs[j]? = some u → w.cell? ⟨b, o + j, none⟩ = some u

theorem CellsAt.keep {w w' : World} {b o : Nat} {cs : List Value} (h : CellsAt w b o cs) (hk : ∀ p : Addr, p.block = b → w'.cell? p = w.cell? p) : CellsAt w' b o cs :=
  fun j u hu => (hk _ rfl).trans (h j u hu)

/-- a Go type's data as Lean's: how many cells it has, and when cells read as it (all that they lead to lies below block B) -/
class Enc (α : Type) where
  sz : Nat
  rd : World → Nat → List Value → α → Prop
  len : ∀ {w : World} {B : Nat} {cs : List Value} {x : α}, rd w B cs x → cs.length = sz
  keep : ∀ {w w' : World} {B : Nat} {cs : List Value} {x : α}, rd w B cs x → (∀ p : Addr, p.block < B → w'.cell? p = w.cell? p) → rd w' B cs x
  more : ∀ {w : World} {B B' : Nat} {cs : List Value} {x : α}, rd w B cs x → B ≤ B' → rd w B' cs x

/-- a type whose cells are its own: no pointers -/
class Flat (α : Type) where
  cells : α → List Value
  sz : Nat
  len : ∀ x : α, (cells x).length = sz
  ok : α → Prop

instance (priority := low) encOfFlat {α : Type} [Flat α] : Enc α where
  sz := Flat.sz α
  rd _ _ cs x := cs = Flat.cells x ∧ Flat.ok x
  len h := by rw [h.1]; exact Flat.len _
  keep h _ := h
  more h _ := h

instance : Flat Int where
  cells n := [.int .i64 n]
  sz := 1
  len _ := rfl
  ok n := I64 n

/-- the slice address A reads as the list xs -/
def At {α : Type} [Enc α] (w : World) (B : Nat) (A : Option Addr) (xs : List α) : Prop :=
  ∀ i x, xs[i]? = some x → ∃ b o cs, A = some ⟨b, o, none⟩ ∧ b < B ∧ CellsAt w b (o + i * Enc.sz α) cs ∧ Enc.rd w B cs x

section
variable {α : Type} [Enc α] {w w' : World} {B B' : Nat} {A : Option Addr} {xs : List α}
theorem At.nil_ : At w B A ([] : List α) := fun i x h => by simp at h
theorem At.keep (h : At w B A xs) (hk : ∀ p : Addr, p.block < B → w'.cell? p = w.cell? p) : At w' B A xs := fun i x hx => by
  obtain ⟨b, o, cs, hA, hb, hc, hr⟩ := h i x hx
  exact ⟨b, o, cs, hA, hb, hc.keep fun p hp => hk p (by omega), Enc.keep hr hk⟩
theorem At.more (h : At w B A xs) (hB : B ≤ B') : At w B' A xs := fun i x hx => by
  obtain ⟨b, o, cs, hA, hb, hc, hr⟩ := h i x hx
  exact ⟨b, o, cs, hA, by omega, hc, Enc.more hr hB⟩
theorem At.below (h : At w B A xs) (hb : Below B w w') : At w' B A xs := h.keep fun _ hp => hb.cell hp
theorem At.alloc (h : At w B A xs) (hB : B ≤ w.heap.size) (o : Obj) : At (w.alloc o) B A xs := h.keep fun p hp => World.cell?_alloc_lt w o p (by omega)
theorem At.setCell (h : At w B A xs) {p : Addr} (hB : B ≤ p.block) (u : Value) : At (w.setCell p u) B A xs := h.keep fun q hq => World.cell?_setCell_other w p q u (fun e => by subst e; omega)
theorem At.drew (h : At w B A xs) : At w.drew B A xs := h.keep fun _ _ => rfl
theorem At.drewN (h : At w B A xs) (n : Nat) : At (w.drewN n) B A xs := h.keep fun _ _ => rfl
end

instance {α : Type} [Enc α] : Enc (List α) where
  sz := 1
  rd w B cs xs := ∃ A cap, cs = [.slice A xs.length cap] ∧ xs.length ≤ cap ∧ cap ≤ maxLen ∧ (A = none → cap = 0) ∧ At w B A xs
  len h := by obtain ⟨A, cap, rfl, _⟩ := h; rfl
  keep h hk := by obtain ⟨A, cap, h1, h2, h3, h4, h5⟩ := h; exact ⟨A, cap, h1, h2, h3, h4, h5.keep hk⟩
  more h hB := by obtain ⟨A, cap, h1, h2, h3, h4, h5⟩ := h; exact ⟨A, cap, h1, h2, h3, h4, h5.more hB⟩

theorem below_drewN {B : Nat} {a w : World} (h : Below B a w) (n : Nat) : Below B a (w.drewN n) := ⟨h.os, h.tape, h.output, h.size, h.block⟩

theorem undrew {B : Nat} {a w : World} (h : Below B a.drew w) : Below B a w := ⟨h.os, h.tape, h.output, h.size, h.block⟩
theorem undrewN {B : Nat} {a w : World} {n : Nat} (h : Below B (a.drewN n) w) : Below B a w := ⟨h.os, h.tape, h.output, h.size, h.block⟩

theorem Below.cells {B : Nat} {w w' : World} (hb : Below B w w') : ∀ p : Addr, p.block < B → w'.cell? p = w.cell? p := fun _ hp => hb.cell hp

section
variable {α : Type} [Enc α] {w w' : World} {B : Nat} {cs : List Value} {x : α}
theorem Enc.below (h : Enc.rd w B cs x) (hb : Below B w w') : Enc.rd w' B cs x := Enc.keep h (Below.cells hb)
end

end Go.Proofs.YtdlcooplllimeaaGreatDoor

/-
  Rows of the call's own, as lists of plain data; append, a store into a row, what stays over later steps.
-/
namespace Go.Proofs.YtdlcooplllimeaaGreatDoor
open Go.RowKit

instance : Flat (Int × Int) where
  cells p := [.int .i64 p.1, .int .i64 p.2]
  sz := 2
  len _ := rfl
  ok p := I64 p.1 ∧ I64 p.2
instance : Flat (Int × Int × Int) where
  cells p := [.int .i64 p.1, .int .i64 p.2.1, .int .i64 p.2.2]
  sz := 3
  len _ := rfl
  ok p := I64 p.1 ∧ I64 p.2.1 ∧ I64 p.2.2
/-- a word of 64 bits -/
structure U64 where
  val : Int
instance : Flat U64 where
  cells p := [.int .u64 p.val]
  sz := 1
  len _ := rfl
  ok p := 0 ≤ p.val ∧ p.val ≤ 18446744073709551615

/-- the cells of a list of plain data, one behind the other -/
def flat {α : Type} [Flat α] (l : List α) : List Value := l.flatMap Flat.cells

section
variable {α : Type} [Flat α]
theorem flat_nil : flat ([] : List α) = [] := rfl
theorem flat_cons (x : α) (l : List α) : flat (x :: l) = Flat.cells x ++ flat l := by simp [flat]
theorem flat_append (l r : List α) : flat (l ++ r) = flat l ++ flat r := by simp [flat]
theorem flat_one (x : α) : flat [x] = Flat.cells x := by simp [flat]
theorem flat_length (l : List α) : (flat l).length = l.length * Flat.sz α := by
  induction l with
  | nil => simp [flat]
  | cons x l ih => rw [flat_cons, List.length_append, ih, Flat.len, List.length_cons, Nat.succ_mul]; omega
theorem flat_get (l : List α) (i j : Nat) (x : α) (hx : l[i]? = some x) (hj : j < Flat.sz α) : (flat l)[i * Flat.sz α + j]? = (Flat.cells x)[j]? := by
  induction l generalizing i with
  | nil => simp at hx
  | cons y l ih =>
    rw [flat_cons]
    cases i with
    | zero =>
      simp only [List.getElem?_cons_zero, Option.some.injEq] at hx
      subst hx
      rw [Nat.zero_mul, Nat.zero_add, List.getElem?_append_left (by rw [Flat.len]; exact hj)]
    | succ i =>
      simp only [List.getElem?_cons_succ] at hx
      rw [List.getElem?_append_right (by rw [Flat.len, Nat.succ_mul]; omega), Flat.len, Nat.succ_mul, show i * Flat.sz α + Flat.sz α + j - Flat.sz α = i * Flat.sz α + j by omega]
      exact ih i hx
theorem flat_set (l : List α) (i : Nat) (x : α) (j : Nat) (u : Value) (y : α) (hx : l[i]? = some x) (hj : j < Flat.sz α) (hy : Flat.cells y = (Flat.cells x).set j u) :
    (flat l).set (i * Flat.sz α + j) u = flat (l.set i y) := by
  induction l generalizing i with
  | nil => simp at hx
  | cons z l ih =>
    cases i with
    | zero =>
      simp only [List.getElem?_cons_zero, Option.some.injEq] at hx
      subst hx
      rw [List.set_cons_zero, flat_cons, flat_cons, hy, Nat.zero_mul, Nat.zero_add, List.set_append_left _ _ (by rw [Flat.len]; exact hj)]
    | succ i =>
      simp only [List.getElem?_cons_succ] at hx
      rw [List.set_cons_succ, flat_cons, flat_cons, List.set_append_right _ _ (by rw [Flat.len, Nat.succ_mul]; omega), Flat.len, Nat.succ_mul,
        show i * Flat.sz α + Flat.sz α + j - Flat.sz α = i * Flat.sz α + j by omega, ih i hx]
/-- the cells of a list that a slice reads as -/
theorem At.news {w : World} {B : Nat} {A : Option Addr} {l : List α} (h : At w B A l) (hne : l ≠ []) : ∃ b o, A = some ⟨b, o, none⟩ ∧ b < B ∧ CellsAt w b o (flat l) := by
  obtain ⟨x0, hx0⟩ : ∃ x, l[0]? = some x := by
    cases l with
    | nil => exact absurd rfl hne
    | cons y l => exact ⟨y, rfl⟩
  obtain ⟨b, o, cs, rfl, hb, -, -⟩ := h 0 x0 hx0
  refine ⟨b, o, rfl, hb, fun j u hu => ?_⟩
  have hlt : j < (flat l).length := (List.getElem?_eq_some_iff.1 hu).1
  rw [flat_length] at hlt
  have hs : 0 < Flat.sz α := by
    rcases Nat.eq_zero_or_pos (Flat.sz α) with h0 | h0
    · rw [h0] at hlt; simp at hlt
    · exact h0
  have hi : j / Flat.sz α < l.length := by rw [Nat.div_lt_iff_lt_mul hs]; exact hlt
  obtain ⟨x, hx⟩ : ∃ x, l[j / Flat.sz α]? = some x := ⟨_, List.getElem?_eq_getElem hi⟩
  obtain ⟨b', o', cs', hA, -, hc, hr⟩ := h _ x hx
  simp only [Option.some.injEq, Addr.mk.injEq] at hA
  obtain ⟨rfl, rfl, -⟩ := hA
  have hcs : cs' = Flat.cells x := hr.1
  subst hcs
  have hm := Nat.mod_lt j hs
  have hd := flat_get l (j / Flat.sz α) (j % Flat.sz α) x hx hm
  have he : j / Flat.sz α * Flat.sz α + j % Flat.sz α = j := Nat.div_add_mod' j _
  rw [he] at hd
  have := hc (j % Flat.sz α) u (by rw [← hd]; exact hu)
  have e2 : o + j / Flat.sz α * Enc.sz α + j % Flat.sz α = o + j := by
    show o + j / Flat.sz α * Flat.sz α + j % Flat.sz α = o + j
    omega
  rw [e2] at this
  exact this
end

/-- the row's block of a slice's address -/
def rowOf (A : Option Addr) : Option Nat := A.map (·.block)
theorem ownBlock_slice (A : Option Addr) (n c : Nat) : Value.ownBlock (.slice A n c) = rowOf A := by cases A <;> rfl

/-- THE SLICE (A, length, c) OWNS THE LIST l, in a row among the blocks from base on -/
def Own {α : Type} [Flat α] (w : World) (base : Nat) (e : TypeId) (A : Option Addr) (c : Nat) (l : List α) : Prop :=
  w.ownsRow base e (Flat.sz α) (.slice A l.length c) l.length (flat l)

section
variable {α : Type} [Flat α] {w w' : World} {base : Nat} {e : TypeId} {A : Option Addr} {c : Nat} {l : List α}
theorem Own.nil_ : Own w base e none 0 ([] : List α) := World.ownsRow_nil w base e _
theorem Own.lt (h : Own w base e A c l) : ∀ g, rowOf A = some g → base ≤ g ∧ g < w.heap.size := fun g hg => World.ownsRow.lt h g (by rw [ownBlock_slice]; exact hg)
theorem Own.base_le {base' : Nat} (h : Own w base e A c l) (hb : base' ≤ base) : Own w base' e A c l := by
  refine ⟨h.1, ?_⟩
  rcases h.2 with h2 | ⟨g, cap, cur, hv, hg, r⟩
  · exact .inl h2
  · exact .inr ⟨g, cap, cur, hv, by omega, r⟩
theorem Own.block_ (h : Own w base e A c l) (hb : ∀ g, rowOf A = some g → w'.heap[g]? = w.heap[g]?) : Own w' base e A c l := by
  refine ⟨h.1, ?_⟩
  rcases h.2 with h2 | ⟨g, cap, cur, hv, hg, hh, r⟩
  · exact .inl h2
  · refine .inr ⟨g, cap, cur, hv, hg, ?_, r⟩
    rw [hb g (by injection hv with h1; subst h1; rfl)]; exact hh
theorem Own.fresh (h : Own w base e A c l) (hb : Below w.heap.size w w') : Own w' base e A c l := h.block_ fun g hg => hb.block g (h.lt g hg).2
theorem Own.below {B : Nat} (h : Own w base e A c l) (hb : Below B w w') (hlt : ∀ g, rowOf A = some g → g < B) : Own w' base e A c l := h.block_ fun g hg => hb.block g (hlt g hg)
theorem Own.alloc (h : Own w base e A c l) (o : Obj) : Own (w.alloc o) base e A c l := World.ownsRow.alloc h o
theorem Own.drewN (h : Own w base e A c l) (n : Nat) : Own (w.drewN n) base e A c l := h
theorem Own.drew (h : Own w base e A c l) : Own w.drew base e A c l := h
theorem Own.setCell (h : Own w base e A c l) (p : Addr) (u : Value) (hp : rowOf A ≠ some p.block) : Own (w.setCell p u) base e A c l :=
  h.block_ fun g hg => Below.heap_setCell _ _ _ _ (fun e => hp (by rw [hg, e]))
theorem Own.grown {row : Option Nat} (h : Own w base e A c l) (hg : w.grownBy w' row) (hne : ∀ g, rowOf A = some g → row ≠ some g) : Own w' base e A c l :=
  h.block_ fun g hg' => hg.block g (h.lt g hg').2 (fun e => hne g hg' e.symm)
theorem Own.le_cap (h : Own w base e A c l) : l.length ≤ c ∧ c ≤ maxLen := by
  rcases h.2 with ⟨h1, h2⟩ | ⟨g, cap, cur, hv, hg, hh, h1, h2, _⟩
  · injection h1 with _ h3 h4; rw [h2] at *; subst h4; simp [maxLen]
  · injection hv with _ _ h3; subst h3; exact ⟨h1, h2⟩
theorem Own.at_zero (h : Own w base e A c l) {a : Addr} (hA : A = some a) : ∃ g, a = ⟨g, 0, none⟩ ∧ base ≤ g ∧ g < w.heap.size := by
  rcases h.2 with ⟨h1, _⟩ | ⟨g, cap, cur, hv, hg, hh, _⟩
  · injection h1 with h3; rw [hA] at h3; cases h3
  · injection hv with h3; rw [hA] at h3; injection h3 with h3; subst h3
    exact ⟨g, rfl, hg, (Array.getElem?_eq_some_iff.1 hh).1⟩
theorem Own.some_ (h : Own w base e A c l) (hl : 0 < l.length) : ∃ g, A = some ⟨g, 0, none⟩ ∧ base ≤ g ∧ g < w.heap.size := by
  rcases h.2 with ⟨_, h2⟩ | ⟨g, cap, cur, hv, hg, hh, _⟩
  · omega
  · injection hv with h3; exact ⟨g, h3, hg, (Array.getElem?_eq_some_iff.1 hh).1⟩
theorem Own.cells_ (h : Own w base e A c l) {g o : Nat} {s : Option Nat} (hA : A = some ⟨g, o, s⟩) : CellsAt w g 0 (flat l) := by
  obtain ⟨g', he, -, -⟩ := h.at_zero hA
  injection he with h1 h2 h3
  subst h1 h2 h3 hA
  intro j u hu
  have := World.ownsRow.cells h (g := g) rfl j u hu
  rw [add_mk] at this
  exact this
/-- an owned row reads as its list -/
theorem Own.at_ (h : Own w base e A c l) (hok : ∀ x ∈ l, Flat.ok x) : At w w.heap.size A l := by
  intro i x hx
  have hi : i < l.length := (List.getElem?_eq_some_iff.1 hx).1
  obtain ⟨g, rfl, -, hlt⟩ := h.some_ (by omega)
  refine ⟨g, 0, Flat.cells x, rfl, hlt, fun j u hu => ?_, rfl, hok x (List.mem_of_getElem? hx)⟩
  have hj : j < Flat.sz α := by rw [← Flat.len x]; exact (List.getElem?_eq_some_iff.1 hu).1
  have := h.cells_ rfl (i * Flat.sz α + j) u (by rw [flat_get l i j x hx hj]; exact hu)
  rw [show 0 + i * Enc.sz α + j = 0 + (i * Flat.sz α + j) from by show 0 + i * Flat.sz α + j = _; omega]
  exact this
theorem Own.frozen (h : Own w base e A c l) {g : Nat} (hA : rowOf A = some g) (j : Nat) : w.frozen? ⟨g, j, none⟩ = false := by
  rcases h.2 with ⟨h1, _⟩ | ⟨g', cap, cur, hv, hg, hh, _⟩
  · injection h1 with h3; rw [h3] at hA; cases hA
  · injection hv with h3; rw [h3] at hA; injection hA with hA; subst hA
    simp [World.frozen?, hh]
/-- a store into an owned row -/
theorem Own.set_ (h : Own w base e A c l) {g i j : Nat} {x y : α} {u : Value} (hA : A = some ⟨g, 0, none⟩) (hx : l[i]? = some x) (hj : j < Flat.sz α) (hy : Flat.cells y = (Flat.cells x).set j u) :
    Own (w.setCell ⟨g, i * Flat.sz α + j, none⟩ u) base e A c (l.set i y) := by
  subst hA
  have hl : (l.set i y).length = l.length := List.length_set
  unfold Own
  rw [hl, ← flat_set l i x j u y hx hj hy]
  refine ⟨by rw [List.length_set]; exact h.1, ?_⟩
  rcases h.2 with ⟨h1, _⟩ | ⟨g', cap, cur, hv, hg, hh, h1, h2, h3, h4⟩
  · injection h1 with h3; cases h3
  · injection hv with h5 _ h6; injection h5 with h5; injection h5 with h5; subst h5 h6
    have hi : i < l.length := (List.getElem?_eq_some_iff.1 hx).1
    refine .inr ⟨g, c, cur.setIfInBounds (i * Flat.sz α + j) u, rfl, hg, ?_, h1, h2, by rw [Array.size_setIfInBounds]; exact h3, ?_⟩
    · simp [World.setCell, Array.getElem?_modify, hh]
    · rw [Array.toList_setIfInBounds, List.take_set, h4]
end

/-- a struct of two numbers stored into an owned row -/
theorem Own.set_two {w : World} {base : Nat} {e : TypeId} {c : Nat} {l : List (Int × Int)} [Flat (Int × Int)] {g i : Nat} {x : Int × Int} {a b : Int} (hsz : Flat.sz (Int × Int) = 2) (hcell : ∀ p : Int × Int, Flat.cells p = [.int .i64 p.1, .int .i64 p.2])
    (h : Own w base e (some ⟨g, 0, none⟩) c l) (hx : l[i]? = some x) : Own ((w.setCell ⟨g, i * 2, none⟩ (.int .i64 a)).setCell ⟨g, i * 2 + 1, none⟩ (.int .i64 b)) base e (some ⟨g, 0, none⟩) c (l.set i (a, b)) := by
  have hi : i < l.length := (List.getElem?_eq_some_iff.1 hx).1
  have h1 := h.set_ (j := 0) (y := (a, x.2)) (u := .int .i64 a) rfl hx (by omega) (by rw [hcell, hcell]; rfl)
  have h2 := h1.set_ (i := i) (x := (a, x.2)) (j := 1) (y := (a, b)) (u := .int .i64 b) rfl (by rw [List.getElem?_set_self hi]) (by omega) (by rw [hcell, hcell]; rfl)
  rw [List.set_set, hsz, Nat.add_zero] at h2
  exact h2

/-- a literal's new block reads as its list -/
theorem At.built {α : Type} [Flat α] (w : World) (cs : Array Value) (e : TypeId) (l : List α) (hcs : cs.toList = flat l) (hok : ∀ x ∈ l, Flat.ok x) :
    At (w.alloc (.cells cs e)) (w.heap.size + 1) (some ⟨w.heap.size, 0, none⟩) l := by
  intro i x hx
  refine ⟨w.heap.size, 0, Flat.cells x, rfl, Nat.lt_succ_self _, fun j u hu => ?_, rfl, hok x (List.mem_of_getElem? hx)⟩
  have hj : j < Flat.sz α := by rw [← Flat.len x]; exact (List.getElem?_eq_some_iff.1 hu).1
  rw [World.cell?_alloc_at _ _ _ _ rfl, ← Array.getElem?_toList, hcs, show 0 + i * Enc.sz α + j = i * Flat.sz α + j from by show 0 + i * Flat.sz α + j = _; omega, flat_get l i j x hx hj]
  exact hu

/-- append onto an owned row of what a slice reads as (nil, empty or not) -/
theorem run_app {α : Type} [Flat α] {P : Program} (w : World) (base : Nat) (t ty e : TypeId) (i : TypeInfo) (z : Value) (bytes : Nat) (ht : P.underlying t = some (.slice e)) (hi : P.info? e = some i) (hz : i.zero = some z)
    (hsize : i.size = Flat.sz α) (hby : i.bytes = bytes) (hzs : z.cells.size = Flat.sz α) (hsz : 0 < Flat.sz α) (hone : ∀ x : α, ∀ u ∈ Flat.cells x, u.oneCell' = true)
    {A : Option Addr} {c : Nat} {l : List α} (hown : Own w base e A c l) {B : Nat} {X : Option Addr} {m d : Nat} {r : List α} (hr : At w B X r) (hm : r.length = m)
    (hbytes : (l.length + m) * bytes ≤ 140737488355328) (h63 : l.length + m ≤ maxLen) (hbase : base ≤ w.heap.size) :
    ∃ A' c' w', (Builtin.append_ #[t, t] ty #[.slice A l.length c, .slice X m d]).run P w = .ok (.slice A' (l.length + m) c') w' ∧ Own w' base e A' c' (l ++ r) ∧ w.grownBy w' (rowOf A) ∧
      (rowOf A' = rowOf A ∨ rowOf A' = some w.heap.size) := by
  subst hm
  rcases List.eq_nil_or_concat r with rfl | ⟨r0, x0, hr0⟩
  · -- nothing is appended
    have hcap := hown.le_cap
    refine ⟨A, c, w, ?_, by simpa using hown, World.grownBy.refl w _, .inl rfl⟩
    cases A with
    | none =>
      have hl : l.length = 0 := by
        rcases hown.2 with ⟨_, h2⟩ | ⟨g, cap, cur, hv, _⟩
        · exact h2
        · injection hv with hv; cases hv
      cases X <;> simp [Builtin.append_, run_underlying ht, sizeOf, typeInfo, hi, Builtin.lenOf, Builtin.firstCells, loadCells, loadCellsFrom, hl]
    | some a =>
      cases X <;> simp [Builtin.append_, run_underlying ht, sizeOf, typeInfo, hi, Builtin.lenOf, Builtin.firstCells, loadCells, loadCellsFrom, hcap.1, storeCells]
  · have hne : r ≠ [] := by rw [hr0]; simp
    obtain ⟨b, o, rfl, hb, hc⟩ := hr.news hne
    obtain ⟨v', w', hrun, h2, h3, h4, h5⟩ := run_append_own_at (P := P) w base t ty e i z (Flat.sz α) bytes ht hi hz hsize hby hzs hsz (.slice A l.length c) l.length (flat l) hown ⟨b, o, none⟩ r.length d (flat r)
      (flat_length r) (fun j u hu => by rw [add_mk]; exact hc j u hu) (fun u hu => by
        unfold flat at hu
        obtain ⟨x, -, hx⟩ := List.mem_flatMap.1 hu
        exact hone x u hx) h63 hbytes hbase
    have hlen : (l ++ r).length = l.length + r.length := List.length_append
    rcases h2.2 with ⟨rfl, h6⟩ | ⟨g, cap, cur, rfl, h6⟩
    · have : 0 < r.length := List.length_pos_iff.2 hne
      omega
    · refine ⟨some ⟨g, 0, none⟩, cap, w', hrun, ?_, by rw [ownBlock_slice] at h3; exact h3, by simpa [ownBlock_slice] using h5⟩
      unfold Own
      rw [hlen, flat_append]
      exact h2

theorem wpList_app {α : Type} [Flat α] {P : Program} {w : World} {ops : Array Oper} {rest : List Oper} {o : Oper} {a : Act} {Q : Exit → Act → World → Prop} (hgd : o.guard = none) (s x : Operand) (t : TypeId)
    (ho : o.op = .call { callee := .builtin .append, args := #[s, x], argTypes := #[t, t] })
    (base : Nat) (e : TypeId) (i : TypeInfo) (z : Value) (bytes : Nat) (ht : P.underlying t = some (.slice e)) (hi : P.info? e = some i) (hz : i.zero = some z)
    (hsize : i.size = Flat.sz α) (hby : i.bytes = bytes) (hzs : z.cells.size = Flat.sz α) (hsz : 0 < Flat.sz α) (hone : ∀ x : α, ∀ u ∈ Flat.cells x, u.oneCell' = true)
    {A : Option Addr} {n c : Nat} {l : List α} (hs : a.eval s = .slice A n c) (hn : l.length = n) (hown : Own w base e A c l) {B : Nat} {X : Option Addr} {m d : Nat} {r : List α} (hx : a.eval x = .slice X m d) (hr : At w B X r) (hm : r.length = m)
    (hbytes : (n + m) * bytes ≤ 140737488355328) (h63 : n + m ≤ maxLen) (hbase : base ≤ w.heap.size)
    (h : ∀ A' c' w', Own w' base e A' c' (l ++ r) → w.grownBy w' (rowOf A) → (rowOf A' = rowOf A ∨ rowOf A' = some w.heap.size) → wpList P ops Q rest (a.put o.dst (.slice A' (n + m) c')) w') :
    wpList P ops Q (o :: rest) a w := by
  subst hn
  refine wpList_plain hgd fun K hK => ?_
  obtain ⟨A', c', w', hrun, h2, h3, h4⟩ := run_app (α := α) (P := P) w base t o.type e i z bytes ht hi hz hsize hby hzs hsz hone hown hr hm hbytes h63 hbase
  unfold Oper.wp execOp
  simp only [ho, resolve, invoke, builtin, Sem.run_bind, Sem.run_pure, Result.andThen_ok, List.map_toArray, List.map_cons, List.map_nil, hs, hx]
  rw [hrun]
  exact hK _ _ (h A' c' w' h2 h3 h4)

/-! ### a block that is known whole -/
/-- block g is just the cells cs of element type t, none of them frozen -/
def Blk (w : World) (g : Nat) (t : TypeId) (cs : Array Value) : Prop := w.heap[g]? = some (.cells cs t (0, 0))

section
variable {w w' : World} {g : Nat} {t : TypeId} {cs : Array Value}
theorem Blk.lt (h : Blk w g t cs) : g < w.heap.size := (Array.getElem?_eq_some_iff.1 h).1
theorem Blk.cell (h : Blk w g t cs) (i : Nat) {v : Value} (hv : cs[i]? = some v) : w.cell? ⟨g, i, none⟩ = some v := (cell_of_row w g i cs t (0, 0) h).trans hv
theorem Blk.frozen (h : Blk w g t cs) (i : Nat) : w.frozen? ⟨g, i, none⟩ = false := by
  unfold Blk at h; simp [World.frozen?, h]
theorem Blk.new (w : World) (t : TypeId) (cs : Array Value) : Blk (w.alloc (.cells cs t)) w.heap.size t cs := heap_alloc_new w _
theorem Blk.at_ (w : World) (t : TypeId) (cs : Array Value) {g : Nat} (hg : g = w.heap.size) : Blk (w.alloc (.cells cs t)) g t cs := by subst hg; exact heap_alloc_new w _
theorem Blk.drew (h : Blk w g t cs) : Blk w.drew g t cs := h
theorem Blk.drewN (h : Blk w g t cs) (n : Nat) : Blk (w.drewN n) g t cs := h
theorem Blk.alloc (h : Blk w g t cs) (o : Obj) : Blk (w.alloc o) g t cs := (Below.heap_alloc w o g h.lt).trans h
theorem Blk.set_ (h : Blk w g t cs) (i : Nat) (u : Value) : Blk (w.setCell ⟨g, i, none⟩ u) g t (cs.setIfInBounds i u) := by
  unfold Blk at h ⊢
  simp [World.setCell, Array.getElem?_modify, h]
theorem Blk.far (h : Blk w g t cs) {p : Addr} (hp : g ≠ p.block) (u : Value) : Blk (w.setCell p u) g t cs := (Below.heap_setCell w p u g hp).trans h
theorem Blk.fresh (h : Blk w g t cs) (hb : Below w.heap.size w w') : Blk w' g t cs := (hb.block g h.lt).trans h
theorem Blk.grown {row : Option Nat} (h : Blk w g t cs) (hb : w.grownBy w' row) (hg : row ≠ some g) : Blk w' g t cs := (hb.block g h.lt (fun e => hg e.symm)).trans h
theorem Blk.cells8 {a0 a1 a2 a3 a4 a5 a6 a7 : Value} (h : Blk w g t #[a0, a1, a2, a3, a4, a5, a6, a7]) :
    w.cell? ⟨g, 0, none⟩ = some a0 ∧ w.cell? ⟨g, 1, none⟩ = some a1 ∧ w.cell? ⟨g, 2, none⟩ = some a2 ∧ w.cell? ⟨g, 3, none⟩ = some a3 ∧ w.cell? ⟨g, 4, none⟩ = some a4 ∧ w.cell? ⟨g, 5, none⟩ = some a5 ∧ w.cell? ⟨g, 6, none⟩ = some a6 ∧ w.cell? ⟨g, 7, none⟩ = some a7 :=
  ⟨h.cell 0 rfl, h.cell 1 rfl, h.cell 2 rfl, h.cell 3 rfl, h.cell 4 rfl, h.cell 5 rfl, h.cell 6 rfl, h.cell 7 rfl⟩
theorem Blk.cells4 {a0 a1 a2 a3 : Value} (h : Blk w g t #[a0, a1, a2, a3]) :
    w.cell? ⟨g, 0, none⟩ = some a0 ∧ w.cell? ⟨g, 1, none⟩ = some a1 ∧ w.cell? ⟨g, 2, none⟩ = some a2 ∧ w.cell? ⟨g, 3, none⟩ = some a3 :=
  ⟨h.cell 0 rfl, h.cell 1 rfl, h.cell 2 rfl, h.cell 3 rfl⟩
theorem At.ok_ {α : Type} [Flat α] {B : Nat} {A : Option Addr} {l : List α} (h : At w B A l) : ∀ x ∈ l, Flat.ok x := by
  intro x hx
  obtain ⟨i, hi⟩ := List.mem_iff_getElem?.1 hx
  obtain ⟨b, o, cs, -, -, -, hr⟩ := h i x hi
  exact hr.2
theorem own_ne_blk {α : Type} [Flat α] {base : Nat} {e : TypeId} {A : Option Addr} {c : Nat} {l : List α} (h : Own w base e A c l) (hg : g < base) : rowOf A ≠ some g := fun he => by have := h.lt g he; omega
end

section
variable {w w' : World} {g : Nat} {t : TypeId} {cs cs' : Array Value}
theorem Blk.setRow (h : Blk w g t cs) : Blk (w.setRow g cs') g t cs' := setRow_heap w g cs cs' t (0, 0) h
theorem Blk.setRow_far (h : Blk w g t cs) {g' : Nat} (hg : g ≠ g') : Blk (w.setRow g' cs') g t cs := (setRow_other w g' g cs' hg).trans h
theorem Own.setRow {α : Type} [Flat α] {base : Nat} {e : TypeId} {A : Option Addr} {c : Nat} {l : List α} (h : Own w base e A c l) {g' : Nat} (hg : rowOf A ≠ some g') : Own (w.setRow g' cs') base e A c l :=
  h.block_ fun k hk => setRow_other w g' k cs' (fun e => hg (by rw [hk, e]))
end

/-- a whole struct loaded from, stored into a block that is known whole -/
theorem wpList_ld {P : Program} {ops : Array Oper} {rest : List Oper} {o : Oper} {a : Act} {w : World} {Q : Exit → Act → World → Prop} (hgd : o.guard = none) (ty : TypeId) (x : Operand) (ho : o.op = .load ty x)
    (g : Nat) (hx : a.eval x = .pointer (some ⟨g, 0, none⟩)) {t : TypeId} {cs : Array Value} {d : TypeDesc} (hg : Blk w g t cs)
    (hu : P.underlying ty = some d) (hd : (match d with | .struct _ | .array _ _ => true | _ => false) = true) (hi : (P.info? ty).map (·.size) = some cs.size)
    (h : wpList P ops Q rest (a.put o.dst (.agg cs)) w) : wpList P ops Q (o :: rest) a w :=
  wpList_load_row hgd ty x ho g hx t cs (0, 0) d hg hu hd hi h
theorem wpList_st {P : Program} {ops : Array Oper} {rest : List Oper} {o : Oper} {a : Act} {w : World} {Q : Exit → Act → World → Prop} (hgd : o.guard = none) (ty : TypeId) (x y : Operand) (ho : o.op = .store ty x y)
    (g : Nat) {cells : Array Value} (hx : a.eval x = .pointer (some ⟨g, 0, none⟩)) (hy : a.eval y = .agg cells)
    {t : TypeId} {old : Array Value} (hg : Blk w g t old) (hi : (P.info? ty).map (·.size) = some cells.size)
    (hold : old.size = cells.size) (h1 : cells.toList.all (·.oneCell') = true)
    (h : wpList P ops Q rest (a.put o.dst undef) (w.setRow g cells)) : wpList P ops Q (o :: rest) a w :=
  wpList_store_row hgd ty x y ho g cells hx hy t old hg hi hold (by rw [← Array.all_toList]; exact h1) h

theorem bel_setRow {B g : Nat} {w0 w : World} (hb : Below B w0 w) (hBg : B ≤ g) (cs : Array Value) : Below B w0 (w.setRow g cs) :=
  hb.trans ⟨rfl, rfl, rfl, by simp, fun k hk => setRow_other w g k cs (by omega)⟩

/-- a struct and a plain value handed back -/
theorem results_cell_tmp {P : Program} {fn : Func} {p q : Tmp} {ty : TypeId} (h : fn.results = #[.cell p ty, .tmp q]) (tmps : Array Value) (w : World) (g : Nat) (t : TypeId) (cs : Array Value) (d : TypeDesc)
    (hp : tmps.getD p undef = .pointer (some ⟨g, 0, none⟩)) (hg : Blk w g t cs)
    (hu : P.underlying ty = some d) (hd : (match d with | .struct _ | .array _ _ => true | _ => false) = true) (hi : (P.info? ty).map (·.size) = some cs.size) :
    (results fn tmps).run P w = .ok (.tuple #[.agg cs, tmps.getD q undef]) w := by
  have hp' : tmps[p]?.getD undef = .pointer (some ⟨g, 0, none⟩) := by simpa using hp
  simp [results, h, hp', asAddr, run_loadVar_row w g t ty cs (0, 0) d hg hu hd hi]

/-- the world at hand behind a name, of which only what is said is known -/
theorem wp_world {P : Program} {c : Code} {Q : Exit → Act → World → Prop} {a : Act} {w0 : World} (p : World → Prop) (h0 : p w0) (h : ∀ w, p w → Code.wp P c Q a w) : Code.wp P c Q a w0 := h w0 h0
theorem wpList_world {P : Program} {ops : Array Oper} {Q : Exit → Act → World → Prop} {l : List Oper} {a : Act} {w0 : World} (p : World → Prop) (h0 : p w0) (h : ∀ w, p w → wpList P ops Q l a w) : wpList P ops Q l a w0 := h w0 h0
theorem calls_world {P : Program} {f : FuncId} {args : Array Value} {R : Ending → World → Prop} {w0 : World} (p : World → Prop) (h0 : p w0) (h : ∀ w, p w → Calls P f args w R) : Calls P f args w0 R := h w0 h0

end Go.Proofs.YtdlcooplllimeaaGreatDoor

/-
  Go's struct types as Lean's (printed by gentypes.py): their cells, their reading, what an element of a slice of them holds.
-/
namespace Go.Proofs.YtdlcooplllimeaaGreatDoor
open Go.RowKit

structure Mk where
  cell : Int
  kind : Int
  num : Int
  vals : List Int

instance : Enc Mk where
  sz := 4
  rd w B cs x := ∃ (c_vals : Value), cs = [.int .i64 x.cell] ++ ([.int .i64 x.kind] ++ ([.int .i64 x.num] ++ ([c_vals]))) ∧ I64 x.cell ∧ I64 x.kind ∧ I64 x.num ∧ Enc.rd w B [c_vals] x.vals
  len := by
    rintro w B cs x ⟨c_vals, rfl, h0, h1, h2, h3⟩
    simp only [List.length_append, List.length_cons, List.length_nil]
  keep := by
    rintro w w2 B cs x ⟨c_vals, rfl, h0, h1, h2, h3⟩ hk
    exact ⟨_, rfl, h0, h1, h2, Enc.keep h3 hk⟩
  more := by
    rintro w B B2 cs x ⟨c_vals, rfl, h0, h1, h2, h3⟩ hB
    exact ⟨_, rfl, h0, h1, h2, Enc.more h3 hB⟩

theorem At.mk_ {w : World} {B : Nat} {A : Option Addr} {l : List Mk} {k : Nat} (h : At w B A l) (hk : k < l.length) :
    ∃ b o x A_vals c_vals, A = some ⟨b, o, none⟩ ∧ b < B ∧ l[k]? = some x ∧ w.cell? ⟨b, o + k * 4, none⟩ = some (.int .i64 x.cell) ∧ w.cell? ⟨b, o + k * 4 + 1, none⟩ = some (.int .i64 x.kind) ∧ w.cell? ⟨b, o + k * 4 + 2, none⟩ = some (.int .i64 x.num) ∧ w.cell? ⟨b, o + k * 4 + 3, none⟩ = some (.slice A_vals x.vals.length c_vals) ∧ At w B A_vals x.vals ∧ (x.vals.length ≤ c_vals ∧ c_vals ≤ maxLen) ∧ I64 x.cell ∧ I64 x.kind ∧ I64 x.num := by
  obtain ⟨x, hx⟩ : ∃ x, l[k]? = some x := ⟨l[k], List.getElem?_eq_getElem hk⟩
  obtain ⟨b, o, cs, rfl, hb, hc, hr⟩ := h k x hx
  obtain ⟨c_vals, rfl, h0, h1, h2, h3⟩ := hr
  obtain ⟨A_vals, d_vals, e3, l1_vals, l2_vals, -, at_vals⟩ := h3
  injection e3 with e3; subst e3
  exact ⟨b, o, x, A_vals, d_vals, rfl, hb, hx, hc 0 _ rfl, hc 1 _ rfl, hc 2 _ rfl, hc 3 _ rfl, at_vals, ⟨l1_vals, l2_vals⟩, h0, h1, h2⟩

structure Ex where
  at_ : Int
  steps : Int
  sets : List (Int × Int)
  makes : List Mk

instance : Enc Ex where
  sz := 4
  rd w B cs x := ∃ (c_sets : Value) (c_makes : Value), cs = [.int .i64 x.at_] ++ ([.int .i64 x.steps] ++ ([c_sets] ++ ([c_makes]))) ∧ I64 x.at_ ∧ I64 x.steps ∧ Enc.rd w B [c_sets] x.sets ∧ Enc.rd w B [c_makes] x.makes
  len := by
    rintro w B cs x ⟨c_sets, c_makes, rfl, h0, h1, h2, h3⟩
    simp only [List.length_append, List.length_cons, List.length_nil]
  keep := by
    rintro w w2 B cs x ⟨c_sets, c_makes, rfl, h0, h1, h2, h3⟩ hk
    exact ⟨_, _, rfl, h0, h1, Enc.keep h2 hk, Enc.keep h3 hk⟩
  more := by
    rintro w B B2 cs x ⟨c_sets, c_makes, rfl, h0, h1, h2, h3⟩ hB
    exact ⟨_, _, rfl, h0, h1, Enc.more h2 hB, Enc.more h3 hB⟩

theorem At.ex_ {w : World} {B : Nat} {A : Option Addr} {l : List Ex} {k : Nat} (h : At w B A l) (hk : k < l.length) :
    ∃ b o x A_sets c_sets A_makes c_makes, A = some ⟨b, o, none⟩ ∧ b < B ∧ l[k]? = some x ∧ w.cell? ⟨b, o + k * 4, none⟩ = some (.int .i64 x.at_) ∧ w.cell? ⟨b, o + k * 4 + 1, none⟩ = some (.int .i64 x.steps) ∧ w.cell? ⟨b, o + k * 4 + 2, none⟩ = some (.slice A_sets x.sets.length c_sets) ∧ w.cell? ⟨b, o + k * 4 + 3, none⟩ = some (.slice A_makes x.makes.length c_makes) ∧ At w B A_sets x.sets ∧ (x.sets.length ≤ c_sets ∧ c_sets ≤ maxLen) ∧ At w B A_makes x.makes ∧ (x.makes.length ≤ c_makes ∧ c_makes ≤ maxLen) ∧ I64 x.at_ ∧ I64 x.steps := by
  obtain ⟨x, hx⟩ : ∃ x, l[k]? = some x := ⟨l[k], List.getElem?_eq_getElem hk⟩
  obtain ⟨b, o, cs, rfl, hb, hc, hr⟩ := h k x hx
  obtain ⟨c_sets, c_makes, rfl, h0, h1, h2, h3⟩ := hr
  obtain ⟨A_sets, d_sets, e2, l1_sets, l2_sets, -, at_sets⟩ := h2
  injection e2 with e2; subst e2
  obtain ⟨A_makes, d_makes, e3, l1_makes, l2_makes, -, at_makes⟩ := h3
  injection e3 with e3; subst e3
  exact ⟨b, o, x, A_sets, d_sets, A_makes, d_makes, rfl, hb, hx, hc 0 _ rfl, hc 1 _ rfl, hc 2 _ rfl, hc 3 _ rfl, at_sets, ⟨l1_sets, l2_sets⟩, at_makes, ⟨l1_makes, l2_makes⟩, h0, h1⟩

structure Fr where
  fn : Int
  at_ : Int
  fto : Int
  gen : Int
  self : (Int × Int)
  regs : List (Int × Int)
  tries : List (Int × Int)

instance : Enc Fr where
  sz := 8
  rd w B cs x := ∃ (c_regs : Value) (c_tries : Value), cs = [.int .i64 x.fn] ++ ([.int .i64 x.at_] ++ ([.int .i64 x.fto] ++ ([.int .i64 x.gen] ++ ([.int .i64 x.self.1, .int .i64 x.self.2] ++ ([c_regs] ++ ([c_tries])))))) ∧ I64 x.fn ∧ I64 x.at_ ∧ I64 x.fto ∧ I64 x.gen ∧ I64 x.self.1 ∧ I64 x.self.2 ∧ Enc.rd w B [c_regs] x.regs ∧ Enc.rd w B [c_tries] x.tries
  len := by
    rintro w B cs x ⟨c_regs, c_tries, rfl, h0, h1, h2, h3, h4, h5, h6, h7⟩
    simp only [List.length_append, List.length_cons, List.length_nil]
  keep := by
    rintro w w2 B cs x ⟨c_regs, c_tries, rfl, h0, h1, h2, h3, h4, h5, h6, h7⟩ hk
    exact ⟨_, _, rfl, h0, h1, h2, h3, h4, h5, Enc.keep h6 hk, Enc.keep h7 hk⟩
  more := by
    rintro w B B2 cs x ⟨c_regs, c_tries, rfl, h0, h1, h2, h3, h4, h5, h6, h7⟩ hB
    exact ⟨_, _, rfl, h0, h1, h2, h3, h4, h5, Enc.more h6 hB, Enc.more h7 hB⟩

theorem At.fr_ {w : World} {B : Nat} {A : Option Addr} {l : List Fr} {k : Nat} (h : At w B A l) (hk : k < l.length) :
    ∃ b o x A_regs c_regs A_tries c_tries, A = some ⟨b, o, none⟩ ∧ b < B ∧ l[k]? = some x ∧ w.cell? ⟨b, o + k * 8, none⟩ = some (.int .i64 x.fn) ∧ w.cell? ⟨b, o + k * 8 + 1, none⟩ = some (.int .i64 x.at_) ∧ w.cell? ⟨b, o + k * 8 + 2, none⟩ = some (.int .i64 x.fto) ∧ w.cell? ⟨b, o + k * 8 + 3, none⟩ = some (.int .i64 x.gen) ∧ w.cell? ⟨b, o + k * 8 + 4, none⟩ = some (.int .i64 x.self.1) ∧ w.cell? ⟨b, o + k * 8 + 5, none⟩ = some (.int .i64 x.self.2) ∧ w.cell? ⟨b, o + k * 8 + 6, none⟩ = some (.slice A_regs x.regs.length c_regs) ∧ w.cell? ⟨b, o + k * 8 + 7, none⟩ = some (.slice A_tries x.tries.length c_tries) ∧ At w B A_regs x.regs ∧ (x.regs.length ≤ c_regs ∧ c_regs ≤ maxLen) ∧ At w B A_tries x.tries ∧ (x.tries.length ≤ c_tries ∧ c_tries ≤ maxLen) ∧ I64 x.fn ∧ I64 x.at_ ∧ I64 x.fto ∧ I64 x.gen ∧ I64 x.self.1 ∧ I64 x.self.2 := by
  obtain ⟨x, hx⟩ : ∃ x, l[k]? = some x := ⟨l[k], List.getElem?_eq_getElem hk⟩
  obtain ⟨b, o, cs, rfl, hb, hc, hr⟩ := h k x hx
  obtain ⟨c_regs, c_tries, rfl, h0, h1, h2, h3, h4, h5, h6, h7⟩ := hr
  obtain ⟨A_regs, d_regs, e6, l1_regs, l2_regs, -, at_regs⟩ := h6
  injection e6 with e6; subst e6
  obtain ⟨A_tries, d_tries, e7, l1_tries, l2_tries, -, at_tries⟩ := h7
  injection e7 with e7; subst e7
  exact ⟨b, o, x, A_regs, d_regs, A_tries, d_tries, rfl, hb, hx, hc 0 _ rfl, hc 1 _ rfl, hc 2 _ rfl, hc 3 _ rfl, hc 4 _ rfl, hc 5 _ rfl, hc 6 _ rfl, hc 7 _ rfl, at_regs, ⟨l1_regs, l2_regs⟩, at_tries, ⟨l1_tries, l2_tries⟩, h0, h1, h2, h3, h4, h5⟩

structure Ce where
  kind : Int
  num : Int
  vals : List (Int × Int)
  frames : List Fr

instance : Enc Ce where
  sz := 4
  rd w B cs x := ∃ (c_vals : Value) (c_frames : Value), cs = [.int .i64 x.kind] ++ ([.int .i64 x.num] ++ ([c_vals] ++ ([c_frames]))) ∧ I64 x.kind ∧ I64 x.num ∧ Enc.rd w B [c_vals] x.vals ∧ Enc.rd w B [c_frames] x.frames
  len := by
    rintro w B cs x ⟨c_vals, c_frames, rfl, h0, h1, h2, h3⟩
    simp only [List.length_append, List.length_cons, List.length_nil]
  keep := by
    rintro w w2 B cs x ⟨c_vals, c_frames, rfl, h0, h1, h2, h3⟩ hk
    exact ⟨_, _, rfl, h0, h1, Enc.keep h2 hk, Enc.keep h3 hk⟩
  more := by
    rintro w B B2 cs x ⟨c_vals, c_frames, rfl, h0, h1, h2, h3⟩ hB
    exact ⟨_, _, rfl, h0, h1, Enc.more h2 hB, Enc.more h3 hB⟩

theorem At.ce_ {w : World} {B : Nat} {A : Option Addr} {l : List Ce} {k : Nat} (h : At w B A l) (hk : k < l.length) :
    ∃ b o x A_vals c_vals A_frames c_frames, A = some ⟨b, o, none⟩ ∧ b < B ∧ l[k]? = some x ∧ w.cell? ⟨b, o + k * 4, none⟩ = some (.int .i64 x.kind) ∧ w.cell? ⟨b, o + k * 4 + 1, none⟩ = some (.int .i64 x.num) ∧ w.cell? ⟨b, o + k * 4 + 2, none⟩ = some (.slice A_vals x.vals.length c_vals) ∧ w.cell? ⟨b, o + k * 4 + 3, none⟩ = some (.slice A_frames x.frames.length c_frames) ∧ At w B A_vals x.vals ∧ (x.vals.length ≤ c_vals ∧ c_vals ≤ maxLen) ∧ At w B A_frames x.frames ∧ (x.frames.length ≤ c_frames ∧ c_frames ≤ maxLen) ∧ I64 x.kind ∧ I64 x.num := by
  obtain ⟨x, hx⟩ : ∃ x, l[k]? = some x := ⟨l[k], List.getElem?_eq_getElem hk⟩
  obtain ⟨b, o, cs, rfl, hb, hc, hr⟩ := h k x hx
  obtain ⟨c_vals, c_frames, rfl, h0, h1, h2, h3⟩ := hr
  obtain ⟨A_vals, d_vals, e2, l1_vals, l2_vals, -, at_vals⟩ := h2
  injection e2 with e2; subst e2
  obtain ⟨A_frames, d_frames, e3, l1_frames, l2_frames, -, at_frames⟩ := h3
  injection e3 with e3; subst e3
  exact ⟨b, o, x, A_vals, d_vals, A_frames, d_frames, rfl, hb, hx, hc 0 _ rfl, hc 1 _ rfl, hc 2 _ rfl, hc 3 _ rfl, at_vals, ⟨l1_vals, l2_vals⟩, at_frames, ⟨l1_frames, l2_frames⟩, h0, h1⟩

structure TI where
  op : Int
  a : Int
  b : Int
  c : Int
  n : Int
  exit : Int
  k : (Int × Int)

instance : Enc TI where
  sz := 8
  rd w B cs x := cs = [.int .i64 x.op] ++ ([.int .i64 x.a] ++ ([.int .i64 x.b] ++ ([.int .i64 x.c] ++ ([.int .i64 x.n] ++ ([.int .i64 x.exit] ++ ([.int .i64 x.k.1, .int .i64 x.k.2])))))) ∧ I64 x.op ∧ I64 x.a ∧ I64 x.b ∧ I64 x.c ∧ I64 x.n ∧ I64 x.exit ∧ I64 x.k.1 ∧ I64 x.k.2
  len h := by rw [h.1]; rfl
  keep h _ := h
  more h _ := h

theorem At.tI_ {w : World} {B : Nat} {A : Option Addr} {l : List TI} {k : Nat} (h : At w B A l) (hk : k < l.length) :
    ∃ b o x, A = some ⟨b, o, none⟩ ∧ b < B ∧ l[k]? = some x ∧ w.cell? ⟨b, o + k * 8, none⟩ = some (.int .i64 x.op) ∧ w.cell? ⟨b, o + k * 8 + 1, none⟩ = some (.int .i64 x.a) ∧ w.cell? ⟨b, o + k * 8 + 2, none⟩ = some (.int .i64 x.b) ∧ w.cell? ⟨b, o + k * 8 + 3, none⟩ = some (.int .i64 x.c) ∧ w.cell? ⟨b, o + k * 8 + 4, none⟩ = some (.int .i64 x.n) ∧ w.cell? ⟨b, o + k * 8 + 5, none⟩ = some (.int .i64 x.exit) ∧ w.cell? ⟨b, o + k * 8 + 6, none⟩ = some (.int .i64 x.k.1) ∧ w.cell? ⟨b, o + k * 8 + 7, none⟩ = some (.int .i64 x.k.2) ∧ I64 x.op ∧ I64 x.a ∧ I64 x.b ∧ I64 x.c ∧ I64 x.n ∧ I64 x.exit ∧ I64 x.k.1 ∧ I64 x.k.2 := by
  obtain ⟨x, hx⟩ : ∃ x, l[k]? = some x := ⟨l[k], List.getElem?_eq_getElem hk⟩
  obtain ⟨b, o, cs, rfl, hb, hc, hr⟩ := h k x hx
  obtain ⟨rfl, h0, h1, h2, h3, h4, h5, h6, h7⟩ := hr
  exact ⟨b, o, x, rfl, hb, hx, hc 0 _ rfl, hc 1 _ rfl, hc 2 _ rfl, hc 3 _ rfl, hc 4 _ rfl, hc 5 _ rfl, hc 6 _ rfl, hc 7 _ rfl, h0, h1, h2, h3, h4, h5, h6, h7⟩

structure TT where
  fn : Int
  at_ : Int
  loop : Int
  ins : List TI
  exits : List Ex
  turn : Ex
  back : Ex

instance : Enc TT where
  sz := 13
  rd w B cs x := ∃ (c_ins : Value) (c_exits : Value) (c_turn : List Value) (c_back : List Value), cs = [.int .i64 x.fn] ++ ([.int .i64 x.at_] ++ ([.int .i64 x.loop] ++ ([c_ins] ++ ([c_exits] ++ (c_turn ++ (c_back)))))) ∧ I64 x.fn ∧ I64 x.at_ ∧ I64 x.loop ∧ Enc.rd w B [c_ins] x.ins ∧ Enc.rd w B [c_exits] x.exits ∧ Enc.rd w B c_turn x.turn ∧ Enc.rd w B c_back x.back
  len := by
    rintro w B cs x ⟨c_ins, c_exits, c_turn, c_back, rfl, h0, h1, h2, h3, h4, h5, h6⟩
    have g5 := Enc.len h5
    have g6 := Enc.len h6
    simp only [List.length_append, List.length_cons, List.length_nil, g5, g6]
    rfl
  keep := by
    rintro w w2 B cs x ⟨c_ins, c_exits, c_turn, c_back, rfl, h0, h1, h2, h3, h4, h5, h6⟩ hk
    exact ⟨_, _, _, _, rfl, h0, h1, h2, Enc.keep h3 hk, Enc.keep h4 hk, Enc.keep h5 hk, Enc.keep h6 hk⟩
  more := by
    rintro w B B2 cs x ⟨c_ins, c_exits, c_turn, c_back, rfl, h0, h1, h2, h3, h4, h5, h6⟩ hB
    exact ⟨_, _, _, _, rfl, h0, h1, h2, Enc.more h3 hB, Enc.more h4 hB, Enc.more h5 hB, Enc.more h6 hB⟩

structure RM where
  cell : (Int × Int)
  kind : Int
  num : Int
  vals : List (Int × Int)

instance : Enc RM where
  sz := 5
  rd w B cs x := ∃ (c_vals : Value), cs = [.int .i64 x.cell.1, .int .i64 x.cell.2] ++ ([.int .i64 x.kind] ++ ([.int .i64 x.num] ++ ([c_vals]))) ∧ I64 x.cell.1 ∧ I64 x.cell.2 ∧ I64 x.kind ∧ I64 x.num ∧ Enc.rd w B [c_vals] x.vals
  len := by
    rintro w B cs x ⟨c_vals, rfl, h0, h1, h2, h3, h4⟩
    simp only [List.length_append, List.length_cons, List.length_nil]
  keep := by
    rintro w w2 B cs x ⟨c_vals, rfl, h0, h1, h2, h3, h4⟩ hk
    exact ⟨_, rfl, h0, h1, h2, h3, Enc.keep h4 hk⟩
  more := by
    rintro w B B2 cs x ⟨c_vals, rfl, h0, h1, h2, h3, h4⟩ hB
    exact ⟨_, rfl, h0, h1, h2, h3, Enc.more h4 hB⟩

theorem At.rM_ {w : World} {B : Nat} {A : Option Addr} {l : List RM} {k : Nat} (h : At w B A l) (hk : k < l.length) :
    ∃ b o x A_vals c_vals, A = some ⟨b, o, none⟩ ∧ b < B ∧ l[k]? = some x ∧ w.cell? ⟨b, o + k * 5, none⟩ = some (.int .i64 x.cell.1) ∧ w.cell? ⟨b, o + k * 5 + 1, none⟩ = some (.int .i64 x.cell.2) ∧ w.cell? ⟨b, o + k * 5 + 2, none⟩ = some (.int .i64 x.kind) ∧ w.cell? ⟨b, o + k * 5 + 3, none⟩ = some (.int .i64 x.num) ∧ w.cell? ⟨b, o + k * 5 + 4, none⟩ = some (.slice A_vals x.vals.length c_vals) ∧ At w B A_vals x.vals ∧ (x.vals.length ≤ c_vals ∧ c_vals ≤ maxLen) ∧ I64 x.cell.1 ∧ I64 x.cell.2 ∧ I64 x.kind ∧ I64 x.num := by
  obtain ⟨x, hx⟩ : ∃ x, l[k]? = some x := ⟨l[k], List.getElem?_eq_getElem hk⟩
  obtain ⟨b, o, cs, rfl, hb, hc, hr⟩ := h k x hx
  obtain ⟨c_vals, rfl, h0, h1, h2, h3, h4⟩ := hr
  obtain ⟨A_vals, d_vals, e4, l1_vals, l2_vals, -, at_vals⟩ := h4
  injection e4 with e4; subst e4
  exact ⟨b, o, x, A_vals, d_vals, rfl, hb, hx, hc 0 _ rfl, hc 1 _ rfl, hc 2 _ rfl, hc 3 _ rfl, hc 4 _ rfl, at_vals, ⟨l1_vals, l2_vals⟩, h0, h1, h2, h3⟩

structure RE where
  at_ : Int
  steps : Int
  sets : List (Int × Int × Int)
  makes : List RM

instance : Enc RE where
  sz := 4
  rd w B cs x := ∃ (c_sets : Value) (c_makes : Value), cs = [.int .i64 x.at_] ++ ([.int .i64 x.steps] ++ ([c_sets] ++ ([c_makes]))) ∧ I64 x.at_ ∧ I64 x.steps ∧ Enc.rd w B [c_sets] x.sets ∧ Enc.rd w B [c_makes] x.makes
  len := by
    rintro w B cs x ⟨c_sets, c_makes, rfl, h0, h1, h2, h3⟩
    simp only [List.length_append, List.length_cons, List.length_nil]
  keep := by
    rintro w w2 B cs x ⟨c_sets, c_makes, rfl, h0, h1, h2, h3⟩ hk
    exact ⟨_, _, rfl, h0, h1, Enc.keep h2 hk, Enc.keep h3 hk⟩
  more := by
    rintro w B B2 cs x ⟨c_sets, c_makes, rfl, h0, h1, h2, h3⟩ hB
    exact ⟨_, _, rfl, h0, h1, Enc.more h2 hB, Enc.more h3 hB⟩

theorem At.rE_ {w : World} {B : Nat} {A : Option Addr} {l : List RE} {k : Nat} (h : At w B A l) (hk : k < l.length) :
    ∃ b o x A_sets c_sets A_makes c_makes, A = some ⟨b, o, none⟩ ∧ b < B ∧ l[k]? = some x ∧ w.cell? ⟨b, o + k * 4, none⟩ = some (.int .i64 x.at_) ∧ w.cell? ⟨b, o + k * 4 + 1, none⟩ = some (.int .i64 x.steps) ∧ w.cell? ⟨b, o + k * 4 + 2, none⟩ = some (.slice A_sets x.sets.length c_sets) ∧ w.cell? ⟨b, o + k * 4 + 3, none⟩ = some (.slice A_makes x.makes.length c_makes) ∧ At w B A_sets x.sets ∧ (x.sets.length ≤ c_sets ∧ c_sets ≤ maxLen) ∧ At w B A_makes x.makes ∧ (x.makes.length ≤ c_makes ∧ c_makes ≤ maxLen) ∧ I64 x.at_ ∧ I64 x.steps := by
  obtain ⟨x, hx⟩ : ∃ x, l[k]? = some x := ⟨l[k], List.getElem?_eq_getElem hk⟩
  obtain ⟨b, o, cs, rfl, hb, hc, hr⟩ := h k x hx
  obtain ⟨c_sets, c_makes, rfl, h0, h1, h2, h3⟩ := hr
  obtain ⟨A_sets, d_sets, e2, l1_sets, l2_sets, -, at_sets⟩ := h2
  injection e2 with e2; subst e2
  obtain ⟨A_makes, d_makes, e3, l1_makes, l2_makes, -, at_makes⟩ := h3
  injection e3 with e3; subst e3
  exact ⟨b, o, x, A_sets, d_sets, A_makes, d_makes, rfl, hb, hx, hc 0 _ rfl, hc 1 _ rfl, hc 2 _ rfl, hc 3 _ rfl, at_sets, ⟨l1_sets, l2_sets⟩, at_makes, ⟨l1_makes, l2_makes⟩, h0, h1⟩

structure RO where
  op : Int
  a : Int
  b : Int
  c : Int
  n : Int
  exit : Int
  k : (Int × Int)

instance : Enc RO where
  sz := 8
  rd w B cs x := cs = [.int .i64 x.op] ++ ([.int .i64 x.a] ++ ([.int .i64 x.b] ++ ([.int .i64 x.c] ++ ([.int .i64 x.n] ++ ([.int .i64 x.exit] ++ ([.int .i64 x.k.1, .int .i64 x.k.2])))))) ∧ I64 x.op ∧ I64 x.a ∧ I64 x.b ∧ I64 x.c ∧ I64 x.n ∧ I64 x.exit ∧ I64 x.k.1 ∧ I64 x.k.2
  len h := by rw [h.1]; rfl
  keep h _ := h
  more h _ := h

theorem At.rO_ {w : World} {B : Nat} {A : Option Addr} {l : List RO} {k : Nat} (h : At w B A l) (hk : k < l.length) :
    ∃ b o x, A = some ⟨b, o, none⟩ ∧ b < B ∧ l[k]? = some x ∧ w.cell? ⟨b, o + k * 8, none⟩ = some (.int .i64 x.op) ∧ w.cell? ⟨b, o + k * 8 + 1, none⟩ = some (.int .i64 x.a) ∧ w.cell? ⟨b, o + k * 8 + 2, none⟩ = some (.int .i64 x.b) ∧ w.cell? ⟨b, o + k * 8 + 3, none⟩ = some (.int .i64 x.c) ∧ w.cell? ⟨b, o + k * 8 + 4, none⟩ = some (.int .i64 x.n) ∧ w.cell? ⟨b, o + k * 8 + 5, none⟩ = some (.int .i64 x.exit) ∧ w.cell? ⟨b, o + k * 8 + 6, none⟩ = some (.int .i64 x.k.1) ∧ w.cell? ⟨b, o + k * 8 + 7, none⟩ = some (.int .i64 x.k.2) ∧ I64 x.op ∧ I64 x.a ∧ I64 x.b ∧ I64 x.c ∧ I64 x.n ∧ I64 x.exit ∧ I64 x.k.1 ∧ I64 x.k.2 := by
  obtain ⟨x, hx⟩ : ∃ x, l[k]? = some x := ⟨l[k], List.getElem?_eq_getElem hk⟩
  obtain ⟨b, o, cs, rfl, hb, hc, hr⟩ := h k x hx
  obtain ⟨rfl, h0, h1, h2, h3, h4, h5, h6, h7⟩ := hr
  exact ⟨b, o, x, rfl, hb, hx, hc 0 _ rfl, hc 1 _ rfl, hc 2 _ rfl, hc 3 _ rfl, hc 4 _ rfl, hc 5 _ rfl, hc 6 _ rfl, hc 7 _ rfl, h0, h1, h2, h3, h4, h5, h6, h7⟩

structure RC where
  fn : Int
  at_ : Int
  loop : Int
  slots : Int
  orders : List RO
  exits : List RE
  turn : RE
  back : RE

instance : Enc RC where
  sz := 14
  rd w B cs x := ∃ (c_orders : Value) (c_exits : Value) (c_turn : List Value) (c_back : List Value), cs = [.int .i64 x.fn] ++ ([.int .i64 x.at_] ++ ([.int .i64 x.loop] ++ ([.int .i64 x.slots] ++ ([c_orders] ++ ([c_exits] ++ (c_turn ++ (c_back))))))) ∧ I64 x.fn ∧ I64 x.at_ ∧ I64 x.loop ∧ I64 x.slots ∧ Enc.rd w B [c_orders] x.orders ∧ Enc.rd w B [c_exits] x.exits ∧ Enc.rd w B c_turn x.turn ∧ Enc.rd w B c_back x.back
  len := by
    rintro w B cs x ⟨c_orders, c_exits, c_turn, c_back, rfl, h0, h1, h2, h3, h4, h5, h6, h7⟩
    have g6 := Enc.len h6
    have g7 := Enc.len h7
    simp only [List.length_append, List.length_cons, List.length_nil, g6, g7]
    rfl
  keep := by
    rintro w w2 B cs x ⟨c_orders, c_exits, c_turn, c_back, rfl, h0, h1, h2, h3, h4, h5, h6, h7⟩ hk
    exact ⟨_, _, _, _, rfl, h0, h1, h2, h3, Enc.keep h4 hk, Enc.keep h5 hk, Enc.keep h6 hk, Enc.keep h7 hk⟩
  more := by
    rintro w B B2 cs x ⟨c_orders, c_exits, c_turn, c_back, rfl, h0, h1, h2, h3, h4, h5, h6, h7⟩ hB
    exact ⟨_, _, _, _, rfl, h0, h1, h2, h3, Enc.more h4 hB, Enc.more h5 hB, Enc.more h6 hB, Enc.more h7 hB⟩

structure Gr where
  has : List (List Int)
  roots : List Int

instance : Enc Gr where
  sz := 2
  rd w B cs x := ∃ (c_has : Value) (c_roots : Value), cs = [c_has] ++ ([c_roots]) ∧ Enc.rd w B [c_has] x.has ∧ Enc.rd w B [c_roots] x.roots
  len := by
    rintro w B cs x ⟨c_has, c_roots, rfl, h0, h1⟩
    simp only [List.length_append, List.length_cons, List.length_nil]
  keep := by
    rintro w w2 B cs x ⟨c_has, c_roots, rfl, h0, h1⟩ hk
    exact ⟨_, _, rfl, Enc.keep h0 hk, Enc.keep h1 hk⟩
  more := by
    rintro w B B2 cs x ⟨c_has, c_roots, rfl, h0, h1⟩ hB
    exact ⟨_, _, rfl, Enc.more h0 hB, Enc.more h1 hB⟩

theorem At.gr_ {w : World} {B : Nat} {A : Option Addr} {l : List Gr} {k : Nat} (h : At w B A l) (hk : k < l.length) :
    ∃ b o x A_has c_has A_roots c_roots, A = some ⟨b, o, none⟩ ∧ b < B ∧ l[k]? = some x ∧ w.cell? ⟨b, o + k * 2, none⟩ = some (.slice A_has x.has.length c_has) ∧ w.cell? ⟨b, o + k * 2 + 1, none⟩ = some (.slice A_roots x.roots.length c_roots) ∧ At w B A_has x.has ∧ (x.has.length ≤ c_has ∧ c_has ≤ maxLen) ∧ At w B A_roots x.roots ∧ (x.roots.length ≤ c_roots ∧ c_roots ≤ maxLen) := by
  obtain ⟨x, hx⟩ : ∃ x, l[k]? = some x := ⟨l[k], List.getElem?_eq_getElem hk⟩
  obtain ⟨b, o, cs, rfl, hb, hc, hr⟩ := h k x hx
  obtain ⟨c_has, c_roots, rfl, h0, h1⟩ := hr
  obtain ⟨A_has, d_has, e0, l1_has, l2_has, -, at_has⟩ := h0
  injection e0 with e0; subst e0
  obtain ⟨A_roots, d_roots, e1, l1_roots, l2_roots, -, at_roots⟩ := h1
  injection e1 with e1; subst e1
  exact ⟨b, o, x, A_has, d_has, A_roots, d_roots, rfl, hb, hx, hc 0 _ rfl, hc 1 _ rfl, at_has, ⟨l1_has, l2_has⟩, at_roots, ⟨l1_roots, l2_roots⟩⟩

structure Hp where
  words : List U64
  roots : List U64

instance : Enc Hp where
  sz := 2
  rd w B cs x := ∃ (c_words : Value) (c_roots : Value), cs = [c_words] ++ ([c_roots]) ∧ Enc.rd w B [c_words] x.words ∧ Enc.rd w B [c_roots] x.roots
  len := by
    rintro w B cs x ⟨c_words, c_roots, rfl, h0, h1⟩
    simp only [List.length_append, List.length_cons, List.length_nil]
  keep := by
    rintro w w2 B cs x ⟨c_words, c_roots, rfl, h0, h1⟩ hk
    exact ⟨_, _, rfl, Enc.keep h0 hk, Enc.keep h1 hk⟩
  more := by
    rintro w B B2 cs x ⟨c_words, c_roots, rfl, h0, h1⟩ hB
    exact ⟨_, _, rfl, Enc.more h0 hB, Enc.more h1 hB⟩

theorem At.hp_ {w : World} {B : Nat} {A : Option Addr} {l : List Hp} {k : Nat} (h : At w B A l) (hk : k < l.length) :
    ∃ b o x A_words c_words A_roots c_roots, A = some ⟨b, o, none⟩ ∧ b < B ∧ l[k]? = some x ∧ w.cell? ⟨b, o + k * 2, none⟩ = some (.slice A_words x.words.length c_words) ∧ w.cell? ⟨b, o + k * 2 + 1, none⟩ = some (.slice A_roots x.roots.length c_roots) ∧ At w B A_words x.words ∧ (x.words.length ≤ c_words ∧ c_words ≤ maxLen) ∧ At w B A_roots x.roots ∧ (x.roots.length ≤ c_roots ∧ c_roots ≤ maxLen) := by
  obtain ⟨x, hx⟩ : ∃ x, l[k]? = some x := ⟨l[k], List.getElem?_eq_getElem hk⟩
  obtain ⟨b, o, cs, rfl, hb, hc, hr⟩ := h k x hx
  obtain ⟨c_words, c_roots, rfl, h0, h1⟩ := hr
  obtain ⟨A_words, d_words, e0, l1_words, l2_words, -, at_words⟩ := h0
  injection e0 with e0; subst e0
  obtain ⟨A_roots, d_roots, e1, l1_roots, l2_roots, -, at_roots⟩ := h1
  injection e1 with e1; subst e1
  exact ⟨b, o, x, A_words, d_words, A_roots, d_roots, rfl, hb, hx, hc 0 _ rfl, hc 1 _ rfl, at_words, ⟨l1_words, l2_words⟩, at_roots, ⟨l1_roots, l2_roots⟩⟩

structure De where
  do_ : Int
  a : Int
  b : Int
  n : Int

instance : Enc De where
  sz := 4
  rd w B cs x := cs = [.int .i64 x.do_] ++ ([.int .i64 x.a] ++ ([.int .i64 x.b] ++ ([.int .i64 x.n]))) ∧ I64 x.do_ ∧ I64 x.a ∧ I64 x.b ∧ I64 x.n
  len h := by rw [h.1]; rfl
  keep h _ := h
  more h _ := h

theorem At.de_ {w : World} {B : Nat} {A : Option Addr} {l : List De} {k : Nat} (h : At w B A l) (hk : k < l.length) :
    ∃ b o x, A = some ⟨b, o, none⟩ ∧ b < B ∧ l[k]? = some x ∧ w.cell? ⟨b, o + k * 4, none⟩ = some (.int .i64 x.do_) ∧ w.cell? ⟨b, o + k * 4 + 1, none⟩ = some (.int .i64 x.a) ∧ w.cell? ⟨b, o + k * 4 + 2, none⟩ = some (.int .i64 x.b) ∧ w.cell? ⟨b, o + k * 4 + 3, none⟩ = some (.int .i64 x.n) ∧ I64 x.do_ ∧ I64 x.a ∧ I64 x.b ∧ I64 x.n := by
  obtain ⟨x, hx⟩ : ∃ x, l[k]? = some x := ⟨l[k], List.getElem?_eq_getElem hk⟩
  obtain ⟨b, o, cs, rfl, hb, hc, hr⟩ := h k x hx
  obtain ⟨rfl, h0, h1, h2, h3⟩ := hr
  exact ⟨b, o, x, rfl, hb, hx, hc 0 _ rfl, hc 1 _ rfl, hc 2 _ rfl, hc 3 _ rfl, h0, h1, h2, h3⟩

end Go.Proofs.YtdlcooplllimeaaGreatDoor

/-
  Go's struct types as Lean's (printed by gentypes.py): their cells, their reading, what an element of a slice of them holds.
-/
namespace Go.Proofs.YtdlcooplllimeaaGreatDoor
open Go.RowKit

instance : Enc ByteArray where
  sz := 1
  rd _ _ cs x := cs = [.string x] ∧ x.size ≤ maxLen
  len h := by rw [h.1]; rfl
  keep h _ := h
  more h _ := h

structure In where
  op : Int
  a : Int
  b : Int
  c : Int
  line : Int

instance : Enc In where
  sz := 5
  rd w B cs x := cs = [.int .i64 x.op] ++ ([.int .i64 x.a] ++ ([.int .i64 x.b] ++ ([.int .i64 x.c] ++ ([.int .i64 x.line])))) ∧ I64 x.op ∧ I64 x.a ∧ I64 x.b ∧ I64 x.c ∧ I64 x.line
  len h := by rw [h.1]; rfl
  keep h _ := h
  more h _ := h

theorem At.in_ {w : World} {B : Nat} {A : Option Addr} {l : List In} {k : Nat} (h : At w B A l) (hk : k < l.length) :
    ∃ b o x, A = some ⟨b, o, none⟩ ∧ b < B ∧ l[k]? = some x ∧ w.cell? ⟨b, o + k * 5, none⟩ = some (.int .i64 x.op) ∧ w.cell? ⟨b, o + k * 5 + 1, none⟩ = some (.int .i64 x.a) ∧ w.cell? ⟨b, o + k * 5 + 2, none⟩ = some (.int .i64 x.b) ∧ w.cell? ⟨b, o + k * 5 + 3, none⟩ = some (.int .i64 x.c) ∧ w.cell? ⟨b, o + k * 5 + 4, none⟩ = some (.int .i64 x.line) ∧ I64 x.op ∧ I64 x.a ∧ I64 x.b ∧ I64 x.c ∧ I64 x.line := by
  obtain ⟨x, hx⟩ : ∃ x, l[k]? = some x := ⟨l[k], List.getElem?_eq_getElem hk⟩
  obtain ⟨b, o, cs, rfl, hb, hc, hr⟩ := h k x hx
  obtain ⟨rfl, h0, h1, h2, h3, h4⟩ := hr
  exact ⟨b, o, x, rfl, hb, hx, hc 0 _ rfl, hc 1 _ rfl, hc 2 _ rfl, hc 3 _ rfl, hc 4 _ rfl, h0, h1, h2, h3, h4⟩

structure Fn where
  params : Int
  regs : Int
  gen : Bool
  caught : List Int
  code : List In

instance : Enc Fn where
  sz := 5
  rd w B cs x := ∃ (c_caught : Value) (c_code : Value), cs = [.int .i64 x.params] ++ ([.int .i64 x.regs] ++ ([.bool x.gen] ++ ([c_caught] ++ ([c_code])))) ∧ I64 x.params ∧ I64 x.regs ∧ Enc.rd w B [c_caught] x.caught ∧ Enc.rd w B [c_code] x.code
  len := by
    rintro w B cs x ⟨c_caught, c_code, rfl, h0, h1, h2, h3⟩
    simp only [List.length_append, List.length_cons, List.length_nil]
  keep := by
    rintro w w2 B cs x ⟨c_caught, c_code, rfl, h0, h1, h2, h3⟩ hk
    exact ⟨_, _, rfl, h0, h1, Enc.keep h2 hk, Enc.keep h3 hk⟩
  more := by
    rintro w B B2 cs x ⟨c_caught, c_code, rfl, h0, h1, h2, h3⟩ hB
    exact ⟨_, _, rfl, h0, h1, Enc.more h2 hB, Enc.more h3 hB⟩

theorem At.fn_ {w : World} {B : Nat} {A : Option Addr} {l : List Fn} {k : Nat} (h : At w B A l) (hk : k < l.length) :
    ∃ b o x A_caught c_caught A_code c_code, A = some ⟨b, o, none⟩ ∧ b < B ∧ l[k]? = some x ∧ w.cell? ⟨b, o + k * 5, none⟩ = some (.int .i64 x.params) ∧ w.cell? ⟨b, o + k * 5 + 1, none⟩ = some (.int .i64 x.regs) ∧ w.cell? ⟨b, o + k * 5 + 2, none⟩ = some (.bool x.gen) ∧ w.cell? ⟨b, o + k * 5 + 3, none⟩ = some (.slice A_caught x.caught.length c_caught) ∧ w.cell? ⟨b, o + k * 5 + 4, none⟩ = some (.slice A_code x.code.length c_code) ∧ At w B A_caught x.caught ∧ (x.caught.length ≤ c_caught ∧ c_caught ≤ maxLen) ∧ At w B A_code x.code ∧ (x.code.length ≤ c_code ∧ c_code ≤ maxLen) ∧ I64 x.params ∧ I64 x.regs := by
  obtain ⟨x, hx⟩ : ∃ x, l[k]? = some x := ⟨l[k], List.getElem?_eq_getElem hk⟩
  obtain ⟨b, o, cs, rfl, hb, hc, hr⟩ := h k x hx
  obtain ⟨c_caught, c_code, rfl, h0, h1, h2, h3⟩ := hr
  obtain ⟨A_caught, d_caught, e2, l1_caught, l2_caught, -, at_caught⟩ := h2
  injection e2 with e2; subst e2
  obtain ⟨A_code, d_code, e3, l1_code, l2_code, -, at_code⟩ := h3
  injection e3 with e3; subst e3
  exact ⟨b, o, x, A_caught, d_caught, A_code, d_code, rfl, hb, hx, hc 0 _ rfl, hc 1 _ rfl, hc 2 _ rfl, hc 3 _ rfl, hc 4 _ rfl, at_caught, ⟨l1_caught, l2_caught⟩, at_code, ⟨l1_code, l2_code⟩, h0, h1⟩

structure Pg where
  fns : List Fn
  consts : List (Int × Int)
  texts : List ByteArray

instance : Enc Pg where
  sz := 3
  rd w B cs x := ∃ (c_fns : Value) (c_consts : Value) (c_texts : Value), cs = [c_fns] ++ ([c_consts] ++ ([c_texts])) ∧ Enc.rd w B [c_fns] x.fns ∧ Enc.rd w B [c_consts] x.consts ∧ Enc.rd w B [c_texts] x.texts
  len := by
    rintro w B cs x ⟨c_fns, c_consts, c_texts, rfl, h0, h1, h2⟩
    simp only [List.length_append, List.length_cons, List.length_nil]
  keep := by
    rintro w w2 B cs x ⟨c_fns, c_consts, c_texts, rfl, h0, h1, h2⟩ hk
    exact ⟨_, _, _, rfl, Enc.keep h0 hk, Enc.keep h1 hk, Enc.keep h2 hk⟩
  more := by
    rintro w B B2 cs x ⟨c_fns, c_consts, c_texts, rfl, h0, h1, h2⟩ hB
    exact ⟨_, _, _, rfl, Enc.more h0 hB, Enc.more h1 hB, Enc.more h2 hB⟩

theorem At.pg_ {w : World} {B : Nat} {A : Option Addr} {l : List Pg} {k : Nat} (h : At w B A l) (hk : k < l.length) :
    ∃ b o x A_fns c_fns A_consts c_consts A_texts c_texts, A = some ⟨b, o, none⟩ ∧ b < B ∧ l[k]? = some x ∧ w.cell? ⟨b, o + k * 3, none⟩ = some (.slice A_fns x.fns.length c_fns) ∧ w.cell? ⟨b, o + k * 3 + 1, none⟩ = some (.slice A_consts x.consts.length c_consts) ∧ w.cell? ⟨b, o + k * 3 + 2, none⟩ = some (.slice A_texts x.texts.length c_texts) ∧ At w B A_fns x.fns ∧ (x.fns.length ≤ c_fns ∧ c_fns ≤ maxLen) ∧ At w B A_consts x.consts ∧ (x.consts.length ≤ c_consts ∧ c_consts ≤ maxLen) ∧ At w B A_texts x.texts ∧ (x.texts.length ≤ c_texts ∧ c_texts ≤ maxLen) := by
  obtain ⟨x, hx⟩ : ∃ x, l[k]? = some x := ⟨l[k], List.getElem?_eq_getElem hk⟩
  obtain ⟨b, o, cs, rfl, hb, hc, hr⟩ := h k x hx
  obtain ⟨c_fns, c_consts, c_texts, rfl, h0, h1, h2⟩ := hr
  obtain ⟨A_fns, d_fns, e0, l1_fns, l2_fns, -, at_fns⟩ := h0
  injection e0 with e0; subst e0
  obtain ⟨A_consts, d_consts, e1, l1_consts, l2_consts, -, at_consts⟩ := h1
  injection e1 with e1; subst e1
  obtain ⟨A_texts, d_texts, e2, l1_texts, l2_texts, -, at_texts⟩ := h2
  injection e2 with e2; subst e2
  exact ⟨b, o, x, A_fns, d_fns, A_consts, d_consts, A_texts, d_texts, rfl, hb, hx, hc 0 _ rfl, hc 1 _ rfl, hc 2 _ rfl, at_fns, ⟨l1_fns, l2_fns⟩, at_consts, ⟨l1_consts, l2_consts⟩, at_texts, ⟨l1_texts, l2_texts⟩⟩

structure Th where
  frames : List Fr
  state : Int
  on : Int
  val : (Int × Int)

instance : Enc Th where
  sz := 5
  rd w B cs x := ∃ (c_frames : Value), cs = [c_frames] ++ ([.int .i64 x.state] ++ ([.int .i64 x.on] ++ ([.int .i64 x.val.1, .int .i64 x.val.2]))) ∧ Enc.rd w B [c_frames] x.frames ∧ I64 x.state ∧ I64 x.on ∧ I64 x.val.1 ∧ I64 x.val.2
  len := by
    rintro w B cs x ⟨c_frames, rfl, h0, h1, h2, h3, h4⟩
    simp only [List.length_append, List.length_cons, List.length_nil]
  keep := by
    rintro w w2 B cs x ⟨c_frames, rfl, h0, h1, h2, h3, h4⟩ hk
    exact ⟨_, rfl, Enc.keep h0 hk, h1, h2, h3, h4⟩
  more := by
    rintro w B B2 cs x ⟨c_frames, rfl, h0, h1, h2, h3, h4⟩ hB
    exact ⟨_, rfl, Enc.more h0 hB, h1, h2, h3, h4⟩

theorem At.th_ {w : World} {B : Nat} {A : Option Addr} {l : List Th} {k : Nat} (h : At w B A l) (hk : k < l.length) :
    ∃ b o x A_frames c_frames, A = some ⟨b, o, none⟩ ∧ b < B ∧ l[k]? = some x ∧ w.cell? ⟨b, o + k * 5, none⟩ = some (.slice A_frames x.frames.length c_frames) ∧ w.cell? ⟨b, o + k * 5 + 1, none⟩ = some (.int .i64 x.state) ∧ w.cell? ⟨b, o + k * 5 + 2, none⟩ = some (.int .i64 x.on) ∧ w.cell? ⟨b, o + k * 5 + 3, none⟩ = some (.int .i64 x.val.1) ∧ w.cell? ⟨b, o + k * 5 + 4, none⟩ = some (.int .i64 x.val.2) ∧ At w B A_frames x.frames ∧ (x.frames.length ≤ c_frames ∧ c_frames ≤ maxLen) ∧ I64 x.state ∧ I64 x.on ∧ I64 x.val.1 ∧ I64 x.val.2 := by
  obtain ⟨x, hx⟩ : ∃ x, l[k]? = some x := ⟨l[k], List.getElem?_eq_getElem hk⟩
  obtain ⟨b, o, cs, rfl, hb, hc, hr⟩ := h k x hx
  obtain ⟨c_frames, rfl, h0, h1, h2, h3, h4⟩ := hr
  obtain ⟨A_frames, d_frames, e0, l1_frames, l2_frames, -, at_frames⟩ := h0
  injection e0 with e0; subst e0
  exact ⟨b, o, x, A_frames, d_frames, rfl, hb, hx, hc 0 _ rfl, hc 1 _ rfl, hc 2 _ rfl, hc 3 _ rfl, hc 4 _ rfl, at_frames, ⟨l1_frames, l2_frames⟩, h1, h2, h3, h4⟩

structure En where
  cell : Int
  fn : (Int × Int)

instance : Enc En where
  sz := 3
  rd w B cs x := cs = [.int .i64 x.cell] ++ ([.int .i64 x.fn.1, .int .i64 x.fn.2]) ∧ I64 x.cell ∧ I64 x.fn.1 ∧ I64 x.fn.2
  len h := by rw [h.1]; rfl
  keep h _ := h
  more h _ := h

theorem At.en_ {w : World} {B : Nat} {A : Option Addr} {l : List En} {k : Nat} (h : At w B A l) (hk : k < l.length) :
    ∃ b o x, A = some ⟨b, o, none⟩ ∧ b < B ∧ l[k]? = some x ∧ w.cell? ⟨b, o + k * 3, none⟩ = some (.int .i64 x.cell) ∧ w.cell? ⟨b, o + k * 3 + 1, none⟩ = some (.int .i64 x.fn.1) ∧ w.cell? ⟨b, o + k * 3 + 2, none⟩ = some (.int .i64 x.fn.2) ∧ I64 x.cell ∧ I64 x.fn.1 ∧ I64 x.fn.2 := by
  obtain ⟨x, hx⟩ : ∃ x, l[k]? = some x := ⟨l[k], List.getElem?_eq_getElem hk⟩
  obtain ⟨b, o, cs, rfl, hb, hc, hr⟩ := h k x hx
  obtain ⟨rfl, h0, h1, h2⟩ := hr
  exact ⟨b, o, x, rfl, hb, hx, hc 0 _ rfl, hc 1 _ rfl, hc 2 _ rfl, h0, h1, h2⟩

structure Stt where
  cells : List Ce
  shapes : List (Int × Int)
  texts : List ByteArray
  threads : List Th
  ends : List En
  said : List (Int × Int)
  asked : Int
  steps : Int

instance : Enc Stt where
  sz := 8
  rd w B cs x := ∃ (c_cells : Value) (c_shapes : Value) (c_texts : Value) (c_threads : Value) (c_ends : Value) (c_said : Value), cs = [c_cells] ++ ([c_shapes] ++ ([c_texts] ++ ([c_threads] ++ ([c_ends] ++ ([c_said] ++ ([.int .i64 x.asked] ++ ([.int .i64 x.steps]))))))) ∧ Enc.rd w B [c_cells] x.cells ∧ Enc.rd w B [c_shapes] x.shapes ∧ Enc.rd w B [c_texts] x.texts ∧ Enc.rd w B [c_threads] x.threads ∧ Enc.rd w B [c_ends] x.ends ∧ Enc.rd w B [c_said] x.said ∧ I64 x.asked ∧ I64 x.steps
  len := by
    rintro w B cs x ⟨c_cells, c_shapes, c_texts, c_threads, c_ends, c_said, rfl, h0, h1, h2, h3, h4, h5, h6, h7⟩
    simp only [List.length_append, List.length_cons, List.length_nil]
  keep := by
    rintro w w2 B cs x ⟨c_cells, c_shapes, c_texts, c_threads, c_ends, c_said, rfl, h0, h1, h2, h3, h4, h5, h6, h7⟩ hk
    exact ⟨_, _, _, _, _, _, rfl, Enc.keep h0 hk, Enc.keep h1 hk, Enc.keep h2 hk, Enc.keep h3 hk, Enc.keep h4 hk, Enc.keep h5 hk, h6, h7⟩
  more := by
    rintro w B B2 cs x ⟨c_cells, c_shapes, c_texts, c_threads, c_ends, c_said, rfl, h0, h1, h2, h3, h4, h5, h6, h7⟩ hB
    exact ⟨_, _, _, _, _, _, rfl, Enc.more h0 hB, Enc.more h1 hB, Enc.more h2 hB, Enc.more h3 hB, Enc.more h4 hB, Enc.more h5 hB, h6, h7⟩

theorem At.stt_ {w : World} {B : Nat} {A : Option Addr} {l : List Stt} {k : Nat} (h : At w B A l) (hk : k < l.length) :
    ∃ b o x A_cells c_cells A_shapes c_shapes A_texts c_texts A_threads c_threads A_ends c_ends A_said c_said, A = some ⟨b, o, none⟩ ∧ b < B ∧ l[k]? = some x ∧ w.cell? ⟨b, o + k * 8, none⟩ = some (.slice A_cells x.cells.length c_cells) ∧ w.cell? ⟨b, o + k * 8 + 1, none⟩ = some (.slice A_shapes x.shapes.length c_shapes) ∧ w.cell? ⟨b, o + k * 8 + 2, none⟩ = some (.slice A_texts x.texts.length c_texts) ∧ w.cell? ⟨b, o + k * 8 + 3, none⟩ = some (.slice A_threads x.threads.length c_threads) ∧ w.cell? ⟨b, o + k * 8 + 4, none⟩ = some (.slice A_ends x.ends.length c_ends) ∧ w.cell? ⟨b, o + k * 8 + 5, none⟩ = some (.slice A_said x.said.length c_said) ∧ w.cell? ⟨b, o + k * 8 + 6, none⟩ = some (.int .i64 x.asked) ∧ w.cell? ⟨b, o + k * 8 + 7, none⟩ = some (.int .i64 x.steps) ∧ At w B A_cells x.cells ∧ (x.cells.length ≤ c_cells ∧ c_cells ≤ maxLen) ∧ At w B A_shapes x.shapes ∧ (x.shapes.length ≤ c_shapes ∧ c_shapes ≤ maxLen) ∧ At w B A_texts x.texts ∧ (x.texts.length ≤ c_texts ∧ c_texts ≤ maxLen) ∧ At w B A_threads x.threads ∧ (x.threads.length ≤ c_threads ∧ c_threads ≤ maxLen) ∧ At w B A_ends x.ends ∧ (x.ends.length ≤ c_ends ∧ c_ends ≤ maxLen) ∧ At w B A_said x.said ∧ (x.said.length ≤ c_said ∧ c_said ≤ maxLen) ∧ I64 x.asked ∧ I64 x.steps := by
  obtain ⟨x, hx⟩ : ∃ x, l[k]? = some x := ⟨l[k], List.getElem?_eq_getElem hk⟩
  obtain ⟨b, o, cs, rfl, hb, hc, hr⟩ := h k x hx
  obtain ⟨c_cells, c_shapes, c_texts, c_threads, c_ends, c_said, rfl, h0, h1, h2, h3, h4, h5, h6, h7⟩ := hr
  obtain ⟨A_cells, d_cells, e0, l1_cells, l2_cells, -, at_cells⟩ := h0
  injection e0 with e0; subst e0
  obtain ⟨A_shapes, d_shapes, e1, l1_shapes, l2_shapes, -, at_shapes⟩ := h1
  injection e1 with e1; subst e1
  obtain ⟨A_texts, d_texts, e2, l1_texts, l2_texts, -, at_texts⟩ := h2
  injection e2 with e2; subst e2
  obtain ⟨A_threads, d_threads, e3, l1_threads, l2_threads, -, at_threads⟩ := h3
  injection e3 with e3; subst e3
  obtain ⟨A_ends, d_ends, e4, l1_ends, l2_ends, -, at_ends⟩ := h4
  injection e4 with e4; subst e4
  obtain ⟨A_said, d_said, e5, l1_said, l2_said, -, at_said⟩ := h5
  injection e5 with e5; subst e5
  exact ⟨b, o, x, A_cells, d_cells, A_shapes, d_shapes, A_texts, d_texts, A_threads, d_threads, A_ends, d_ends, A_said, d_said, rfl, hb, hx, hc 0 _ rfl, hc 1 _ rfl, hc 2 _ rfl, hc 3 _ rfl, hc 4 _ rfl, hc 5 _ rfl, hc 6 _ rfl, hc 7 _ rfl, at_cells, ⟨l1_cells, l2_cells⟩, at_shapes, ⟨l1_shapes, l2_shapes⟩, at_texts, ⟨l1_texts, l2_texts⟩, at_threads, ⟨l1_threads, l2_threads⟩, at_ends, ⟨l1_ends, l2_ends⟩, at_said, ⟨l1_said, l2_said⟩, h6, h7⟩

end Go.Proofs.YtdlcooplllimeaaGreatDoor

/- Cells in words, the plain law. Boxes come as a function. No program is named here. -/
namespace Go.Proofs.YtdlcooplllimeaaGreatDoor

def wd (n : Int) : U64 := ⟨n % 18446744073709551616⟩
theorem wd_ok (n : Int) : 0 ≤ (wd n).val ∧ (wd n).val ≤ 18446744073709551615 := by unfold wd; simp only; omega
/-- the first error of values' boxes, behind an error e -/
def errFrom (bx : Int × Int → Int × Int) (e : Int) (l : List (Int × Int)) : Int := l.foldl (fun e v => if e = 0 then (bx v).2 else e) e
theorem errFrom_append (bx : Int × Int → Int × Int) (e : Int) (l r : List (Int × Int)) : errFrom bx e (l ++ r) = errFrom bx (errFrom bx e l) r := List.foldl_append
theorem errFrom_snoc (bx : Int × Int → Int × Int) (e : Int) (l : List (Int × Int)) (k : Nat) (x : Int × Int) (h : l[k]? = some x) : errFrom bx e (l.take (k + 1)) = if errFrom bx e (l.take k) = 0 then (bx x).2 else errFrom bx e (l.take k) := by
  rw [List.take_add_one, h]; unfold errFrom; rw [List.foldl_append]; rfl
theorem errFrom_stays (bx : Int × Int → Int × Int) (e : Int) (l : List (Int × Int)) (h : e ≠ 0) : errFrom bx e l = e := by
  unfold errFrom
  induction l with
  | nil => rfl
  | cons v l ih => rw [List.foldl_cons, if_neg h, ih]
theorem errFrom_hit (bx : Int × Int → Int × Int) (l : List (Int × Int)) (k : Nat) (x : Int × Int) (h : l[k]? = some x) (h0 : errFrom bx 0 (l.take k) = 0) (hx : (bx x).2 ≠ 0) : errFrom bx 0 l = (bx x).2 := by
  have hs := errFrom_snoc bx 0 l k x h
  rw [if_pos h0] at hs
  have e : l = l.take (k + 1) ++ l.drop (k + 1) := (List.take_append_drop _ _).symm
  rw [e, errFrom_append, hs, errFrom_stays _ _ _ hx]

def boxW (bx : Int × Int → Int × Int) (v : Int × Int) : U64 := ⟨(bx v).1⟩
def valsW (bx : Int × Int → Int × Int) (l : List (Int × Int)) : List U64 := wd l.length :: l.map (boxW bx)
def triesW (l : List (Int × Int)) : List U64 := l.flatMap fun t => [wd t.1, wd t.2]
def frameW (bx : Int × Int → Int × Int) (f : Fr) : List U64 := [wd f.fn, wd f.at_, wd f.fto, wd f.gen] ++ [boxW bx f.self] ++ valsW bx f.regs ++ [wd f.tries.length] ++ triesW f.tries
def cellW (bx : Int × Int → Int × Int) (c : Ce) : List U64 := [wd c.kind, wd c.num] ++ valsW bx c.vals ++ [wd c.frames.length] ++ c.frames.flatMap (frameW bx)
def frVals (f : Fr) : List (Int × Int) := f.self :: f.regs
def cellVals (c : Ce) : List (Int × Int) := c.vals ++ c.frames.flatMap frVals
def frLarge (f : Fr) : Bool := decide (60 < f.regs.length) || decide (20 < f.tries.length)
def mostV (k : Int) : Int := if k = 7 then 600 else 100
def cellLarge (c : Ce) : Bool := c.frames.any frLarge || decide (mostV c.kind < c.vals.length) || decide (30 < c.frames.length)
def cellErr (bx : Int × Int → Int × Int) (c : Ce) : Int := if cellLarge c = true then 2 else errFrom bx 0 (cellVals c)
theorem flatMap_snoc {α β : Type} (f : α → List β) (l : List α) (k : Nat) (x : α) (h : l[k]? = some x) : (l.take (k + 1)).flatMap f = (l.take k).flatMap f ++ f x := by
  rw [List.take_add_one, h]; simp
theorem map_snoc {α β : Type} (f : α → β) (l : List α) (k : Nat) (x : α) (h : l[k]? = some x) : (l.take (k + 1)).map f = (l.take k).map f ++ [f x] := by
  rw [List.take_add_one, h]; simp
theorem valsW_length (bx : Int × Int → Int × Int) (l : List (Int × Int)) : (valsW bx l).length = l.length + 1 := by simp [valsW]
theorem triesW_length (l : List (Int × Int)) : (triesW l).length = 2 * l.length := by
  induction l with
  | nil => rfl
  | cons t l ih => simp only [triesW, List.flatMap_cons, List.length_append, List.length_cons, List.length_nil] at ih ⊢; omega
theorem frameW_length (bx : Int × Int → Int × Int) (f : Fr) (h : frLarge f = false) : (frameW bx f).length ≤ 110 := by
  simp only [frLarge, Bool.or_eq_false_iff, decide_eq_false_iff_not] at h
  simp only [frameW, List.length_append, valsW_length, triesW_length, List.length_cons, List.length_nil]
  omega
theorem flat_le {α β : Type} (f : α → List β) (l : List α) (m : Nat) (h : ∀ x ∈ l, (f x).length ≤ m) : (l.flatMap f).length ≤ l.length * m := by
  induction l with
  | nil => simp
  | cons x l ih =>
    have h1 := h x (by simp)
    have h2 := ih (fun y hy => h y (by simp [hy]))
    rw [List.flatMap_cons, List.length_append, List.length_cons, Nat.succ_mul]
    omega
theorem cellLarge_no {c : Ce} (h : cellLarge c = false) : (∀ f ∈ c.frames, frLarge f = false) ∧ c.vals.length ≤ 600 ∧ c.frames.length ≤ 30 ∧ (c.vals.length : Int) ≤ mostV c.kind := by
  unfold cellLarge at h
  simp only [Bool.or_eq_false_iff, decide_eq_false_iff_not, List.any_eq_false] at h
  obtain ⟨⟨h1, h2⟩, h3⟩ := h
  refine ⟨fun f hf => by simpa using h1 f hf, ?_, by omega, by omega⟩
  unfold mostV at h2
  split at h2 <;> omega

end Go.Proofs.YtdlcooplllimeaaGreatDoor

/-
  slices.Clone and the reference's Copy at plain element types: a list of the call's own that reads as the argument.
-/
namespace Go.Proofs.YtdlcooplllimeaaGreatDoor
open Go.RowKit

/-- what a copying call leaves: a slice of its own that holds the list -/
def Copied {α : Type} [Flat α] (E : TypeId) (l : List α) (w : World) (e : Ending) (w' : World) : Prop :=
  ∃ A' c', e = .returned (.slice A' l.length c') ∧ Own w' w.heap.size E A' c' l ∧ Below w.heap.size w w'

theorem own_new0 {α : Type} [Flat α] (w : World) (base : Nat) (E : TypeId) (cs : Array Value) (hcs : cs = #[]) (hb : base ≤ w.heap.size) : Own (α := α) (w.alloc (.cells cs E)) base E (some ⟨w.heap.size, 0, none⟩) 0 ([] : List α) :=
  World.ownsRow_made w cs 0 hb (by simp [maxLen]) (by simp [hcs])

theorem below_app {w w1 w' : World} {A : Option Addr} {B : Nat} (hb : Below B w w1) (hg : w1.grownBy w' (rowOf A)) (hB : B ≤ w1.heap.size) (hA : ∀ g, rowOf A = some g → B ≤ g) : Below B w w' := hb.grown hg hB hA

end Go.Proofs.YtdlcooplllimeaaGreatDoor

/- Elements of any type as plain rows of cells: 'Raw n'. A list that a slice reads as, of whatever type, reads as raw rows too; copying keeps the rows. -/
namespace Go.Proofs.YtdlcooplllimeaaGreatDoor
open Go.RowKit

structure Raw (n : Nat) where
  cs : List Value
  len : cs.length = n
  one : ∀ u ∈ cs, u.oneCell' = true

instance (n : Nat) : Flat (Raw n) where
  cells r := r.cs
  sz := n
  len r := r.len
  ok _ := True

def Raw.set {n : Nat} (r : Raw n) (j : Nat) (u : Value) (hu : u.oneCell' = true) : Raw n :=
  ⟨r.cs.set j u, by rw [List.length_set]; exact r.len, fun v hv => by
    rcases List.mem_or_eq_of_mem_set hv with h | h
    · exact r.one v h
    · rw [h]; exact hu⟩

theorem raw_one {n : Nat} : ∀ x : Raw n, ∀ u ∈ Flat.cells x, u.oneCell' = true := fun x u hu => x.one u hu

theorem At.raws {α : Type} [Enc α] {n : Nat} (hn : Enc.sz α = n) {w : World} {B : Nat} {A : Option Addr} {xs : List α} (h : At w B A xs)
    (hone : ∀ cs x, Enc.rd w B cs (x : α) → ∀ u ∈ cs, u.oneCell' = true) :
    ∃ rs : List (Raw n), rs.length = xs.length ∧ At w B A rs ∧ ∀ (i : Nat) (r : Raw n) (x : α), rs[i]? = some r → xs[i]? = some x → Enc.rd w B r.cs x := by
  subst hn
  have H : ∀ i : Fin xs.length, ∃ r : Raw (Enc.sz α), (∃ b o, A = some ⟨b, o, none⟩ ∧ b < B ∧ CellsAt w b (o + i.val * Enc.sz α) r.cs) ∧ Enc.rd w B r.cs xs[i.val] := by
    intro i
    obtain ⟨b, o, cs, hA, hb, hc, hr⟩ := h i.val xs[i.val] (List.getElem?_eq_getElem i.isLt)
    exact ⟨⟨cs, Enc.len hr, hone cs _ hr⟩, ⟨b, o, hA, hb, hc⟩, hr⟩
  obtain ⟨f, hf⟩ := Classical.axiomOfChoice H
  have get : ∀ (i : Nat) (r : Raw (Enc.sz α)), (List.ofFn f)[i]? = some r → ∃ hi : i < xs.length, r = f ⟨i, hi⟩ := by
    intro i r hr
    rw [List.getElem?_ofFn] at hr
    split at hr
    · rename_i hi
      injection hr with hr
      exact ⟨hi, hr.symm⟩
    · cases hr
  refine ⟨List.ofFn f, List.length_ofFn, fun i r hr => ?_, fun i r x hr hx => ?_⟩
  · obtain ⟨hi, rfl⟩ := get i r hr
    obtain ⟨⟨b, o, hA, hb, hc⟩, -⟩ := hf ⟨i, hi⟩
    exact ⟨b, o, (f ⟨i, hi⟩).cs, hA, hb, hc, rfl, trivial⟩
  · obtain ⟨hi, rfl⟩ := get i r hr
    have := (hf ⟨i, hi⟩).2
    have hx' : xs[i] = x := by rw [List.getElem?_eq_getElem hi] at hx; injection hx
    rw [← hx']; exact this

/-- one cell of an element stored -/
theorem Own.set_raw {n : Nat} {w : World} {base : Nat} {e : TypeId} {c : Nat} {l : List (Raw n)} {g i j : Nat} {x : Raw n} {u : Value} (h : Own w base e (some ⟨g, 0, none⟩) c l) (hx : l[i]? = some x) (hj : j < n) (hu : u.oneCell' = true) :
    Own (w.setCell ⟨g, i * n + j, none⟩ u) base e (some ⟨g, 0, none⟩) c (l.set i (x.set j u hu)) := h.set_ rfl hx hj rfl

theorem Own.raw_cell {n : Nat} {w : World} {base : Nat} {e : TypeId} {c : Nat} {l : List (Raw n)} {g : Nat} (h : Own w base e (some ⟨g, 0, none⟩) c l) {i j : Nat} {x : Raw n} {u : Value} (hx : l[i]? = some x) (hu : x.cs[j]? = some u) : w.cell? ⟨g, i * n + j, none⟩ = some u := by
  have hj : j < n := by have := (List.getElem?_eq_some_iff.1 hu).1; rw [x.len] at this; exact this
  have := h.cells_ (g := g) (o := 0) rfl (i * n + j) u ((flat_get l i j x hx hj).trans hu)
  rw [Nat.zero_add] at this; exact this
theorem Raw.has {n : Nat} (x : Raw n) (j : Nat) (hj : j < n) : ∃ u, x.cs[j]? = some u := ⟨_, List.getElem?_eq_getElem (by rw [x.len]; exact hj)⟩
theorem At.raw_cell {n : Nat} {w : World} {B : Nat} {b o : Nat} {l : List (Raw n)} (h : At w B (some ⟨b, o, none⟩) l) {i j : Nat} {x : Raw n} {u : Value} (hx : l[i]? = some x) (hu : x.cs[j]? = some u) : w.cell? ⟨b, o + i * n + j, none⟩ = some u := by
  obtain ⟨b', o', cs, hA, hb, hc, hr, -⟩ := h i x hx
  injection hA with hA; injection hA with h1 h2; subst h1 h2 hr
  exact hc j u hu

/-- two cells of an element stored: some raw row is owned -/
theorem Own.set_raw2 {n : Nat} {w : World} {base : Nat} {e : TypeId} {c : Nat} {l : List (Raw n)} {g i j k : Nat} {x : Raw n} {u v : Value} (h : Own w base e (some ⟨g, 0, none⟩) c l) (hx : l[i]? = some x) (hj : j < n) (hk : k < n) (hu : u.oneCell' = true) (hv : v.oneCell' = true) :
    Own ((w.setCell ⟨g, i * n + j, none⟩ u).setCell ⟨g, i * n + k, none⟩ v) base e (some ⟨g, 0, none⟩) c (l.set i ((x.set j u hu).set k v hv)) := by
  have hi : i < l.length := (List.getElem?_eq_some_iff.1 hx).1
  have h1 := h.set_raw hx hj hu
  have h2 := h1.set_raw (i := i) (x := x.set j u hu) (by rw [List.getElem?_set_self hi]) hk hv
  rw [List.set_set] at h2
  exact h2

theorem raw_ext {n : Nat} {a b : Raw n} (h : a.cs = b.cs) : a = b := by cases a; cases b; cases h; rfl
/-- a struct of four cells stored into an owned row -/
theorem Own.set_raw4 {w : World} {base : Nat} {e : TypeId} {c : Nat} {l : List (Raw 4)} {g i : Nat} {x : Raw 4} {u0 u1 u2 u3 : Value} (h : Own w base e (some ⟨g, 0, none⟩) c l) (hx : l[i]? = some x) (r : Raw 4) (hr : r.cs = [u0, u1, u2, u3]) :
    Own ((((w.setCell ⟨g, i * 4, none⟩ u0).setCell ⟨g, i * 4 + 1, none⟩ u1).setCell ⟨g, i * 4 + 2, none⟩ u2).setCell ⟨g, i * 4 + 3, none⟩ u3) base e (some ⟨g, 0, none⟩) c (l.set i r) := by
  have hi : i < l.length := (List.getElem?_eq_some_iff.1 hx).1
  have o0 := r.one u0 (by rw [hr]; simp)
  have o1 := r.one u1 (by rw [hr]; simp)
  have o2 := r.one u2 (by rw [hr]; simp)
  have o3 := r.one u3 (by rw [hr]; simp)
  have h0 := h.set_raw (j := 0) hx (by decide) o0
  have h1 := h0.set_raw (i := i) (j := 1) (x := x.set 0 u0 o0) (by rw [List.getElem?_set_self hi]) (by decide) o1
  rw [List.set_set] at h1
  have h2 := h1.set_raw (i := i) (j := 2) (x := (x.set 0 u0 o0).set 1 u1 o1) (by rw [List.getElem?_set_self hi]) (by decide) o2
  rw [List.set_set] at h2
  have h3 := h2.set_raw (i := i) (j := 3) (x := ((x.set 0 u0 o0).set 1 u1 o1).set 2 u2 o2) (by rw [List.getElem?_set_self hi]) (by decide) o3
  rw [List.set_set] at h3
  have hcs : (((x.set 0 u0 o0).set 1 u1 o1).set 2 u2 o2).set 3 u3 o3 = r := by
    apply raw_ext
    obtain ⟨cs, hlen, hone⟩ := x
    rcases cs with _ | ⟨a, _ | ⟨b, _ | ⟨c', _ | ⟨d, _ | ⟨f, cs⟩⟩⟩⟩⟩ <;> simp at hlen
    rw [hr]; rfl
  rw [hcs] at h3
  exact h3

/-- lists of flat data over a store into another block -/
theorem At.far_ {α : Type} [Flat α] {w : World} {B : Nat} {A : Option Addr} {xs : List α} (h : At w B A xs) {p : Addr} (hp : rowOf A ≠ some p.block) (u : Value) : At (w.setCell p u) B A xs := by
  intro i x hx
  obtain ⟨b, o, cs, rfl, hb, hc, hr⟩ := h i x hx
  exact ⟨b, o, cs, rfl, hb, hc.keep fun q hq => World.cell?_setCell_other w p q u (fun e => hp (by subst e; simp [rowOf, hq])), hr⟩
theorem At.grown_ {α : Type} [Flat α] {w w' : World} {B : Nat} {A : Option Addr} {xs : List α} (h : At w B A xs) (hB : B ≤ w.heap.size) {row : Option Nat} (hg : w.grownBy w' row) (hr : ∀ g, rowOf A = some g → row ≠ some g) : At w' B A xs := by
  intro i x hx
  obtain ⟨b, o, cs, rfl, hb, hc, hr'⟩ := h i x hx
  refine ⟨b, o, cs, rfl, hb, hc.keep fun q hq => ?_, hr'⟩
  unfold World.cell?
  rw [hq, hg.block b (by omega) (fun e => hr b rfl e.symm)]

end Go.Proofs.YtdlcooplllimeaaGreatDoor

/- Lists of bools, of ints, of lists: cells read and stored; rows of different types are apart. -/
namespace Go.Proofs.YtdlcooplllimeaaGreatDoor
open Go.RowKit

instance : Flat Bool where
  cells b := [.bool b]
  sz := 1
  len _ := rfl
  ok _ := True
theorem bool_one : ∀ x : Bool, ∀ u ∈ Flat.cells x, u.oneCell' = true := by
  intro x u hu; simp [Flat.cells] at hu; subst hu; rfl

theorem At.bool_ {w : World} {B : Nat} {A : Option Addr} {l : List Bool} {k : Nat} (h : At w B A l) (hk : k < l.length) :
    ∃ b o x, A = some ⟨b, o, none⟩ ∧ b < B ∧ l[k]? = some x ∧ w.cell? ⟨b, o + k, none⟩ = some (.bool x) := by
  obtain ⟨x, hx⟩ : ∃ x, l[k]? = some x := ⟨l[k], List.getElem?_eq_getElem hk⟩
  obtain ⟨b, o, cs, rfl, hb, hc, rfl, hok⟩ := h k x hx
  have h0 := hc 0 _ rfl
  simp only [Flat.sz, Enc.sz, Nat.mul_one, Nat.add_zero] at h0
  exact ⟨b, o, x, rfl, hb, hx, h0⟩
theorem At.slice_ {α : Type} [Enc α] {w : World} {B : Nat} {A : Option Addr} {l : List (List α)} {k : Nat} (h : At w B A l) (hk : k < l.length) :
    ∃ b o x A' c', A = some ⟨b, o, none⟩ ∧ b < B ∧ l[k]? = some x ∧ w.cell? ⟨b, o + k, none⟩ = some (.slice A' x.length c') ∧ At w B A' x ∧ x.length ≤ c' ∧ c' ≤ maxLen := by
  obtain ⟨x, hx⟩ : ∃ x, l[k]? = some x := ⟨l[k], List.getElem?_eq_getElem hk⟩
  obtain ⟨b, o, cs, rfl, hb, hc, A', c', rfl, h1, h2, -, h3⟩ := h k x hx
  have h0 := hc 0 _ rfl
  rw [show o + k * Enc.sz (List α) + 0 = o + k from by show o + k * 1 + 0 = o + k; omega] at h0
  exact ⟨b, o, x, A', c', rfl, hb, hx, h0, h3, h1, h2⟩
theorem At.nil_len {α : Type} [Enc α] {w : World} {B : Nat} {l : List α} (h : At w B none l) : l = [] := by
  rcases l with _ | ⟨x, l⟩
  · rfl
  · obtain ⟨b, o, cs, hA, -⟩ := h 0 x rfl
    cases hA

section
variable {α β : Type} [Flat α] [Flat β] {w : World} {base base' : Nat} {e e' : TypeId} {A A' : Option Addr} {c c' : Nat} {l : List α} {l' : List β}
theorem own_ne_ty (h : Own w base e A c l) {g : Nat} {t : TypeId} {cs : Array Value} (hg : Blk w g t cs) (hne : e ≠ t) : rowOf A ≠ some g := by
  intro hA
  rcases h.2 with ⟨h1, _⟩ | ⟨g', cap, cur, hv, _, hh, _⟩
  · injection h1 with h3; rw [h3] at hA; cases hA
  · injection hv with h3; rw [h3] at hA; injection hA with hA; simp only at hA; subst hA
    unfold Blk at hg
    rw [hh] at hg
    injection hg with hg; injection hg with _ hg _
    exact hne hg
theorem own_own_ty (h : Own w base e A c l) (h' : Own w base' e' A' c' l') (hne : e ≠ e') : ∀ g, rowOf A = some g → rowOf A' ≠ some g := by
  intro g hA hA'
  rcases h'.2 with ⟨h1, _⟩ | ⟨g', cap, cur, hv, _, hh, _⟩
  · injection h1 with h3; rw [h3] at hA'; cases hA'
  · injection hv with h3; rw [h3] at hA'; injection hA' with hA'; simp only at hA'; subst hA'
    rcases h.2 with ⟨h1, _⟩ | ⟨g2, cap2, cur2, hv2, _, hh2, _⟩
    · injection h1 with h3; rw [h3] at hA; cases hA
    · injection hv2 with h3; rw [h3] at hA; injection hA with hA; simp only at hA; subst hA
      rw [hh] at hh2
      injection hh2 with hh2; injection hh2 with _ hh2 _
      exact hne hh2.symm
theorem flat_take (l : List α) (k : Nat) (hk : k ≤ l.length) : (flat l).take (k * Flat.sz α) = flat (l.take k) := by
  have h := flat_append (l.take k) (l.drop k)
  rw [List.take_append_drop] at h
  rw [h, List.take_left' (by rw [flat_length, List.length_take, Nat.min_eq_left hk])]
theorem Own.take_ (h : Own w base e A c l) (k : Nat) (hk : k ≤ l.length) : Own w base e A c (l.take k) := by
  have hl : (l.take k).length = k := by rw [List.length_take]; omega
  have hf := flat_take l k hk
  refine ⟨flat_length _, ?_⟩
  rw [hl]
  rcases h.2 with ⟨h1, h2⟩ | ⟨g, cap, cur, hv, hg, hh, h1, h2, h3, h4⟩
  · injection h1 with h3 h4 h5
    have : k = 0 := by omega
    subst this
    exact .inl ⟨by rw [h3, h5], rfl⟩
  · injection hv with h5 _ h6
    subst h6
    refine .inr ⟨g, c, cur, by rw [h5], hg, hh, by omega, h2, h3, ?_⟩
    rw [← hf, ← h4, List.take_take, Nat.min_eq_left (Nat.mul_le_mul_right _ hk)]
theorem Own.ok_take {k : Nat} (h : ∀ x ∈ l, Flat.ok x) : ∀ x ∈ l.take k, Flat.ok x := fun x hx => h x (List.mem_of_mem_take hx)
end

theorem Own.set_bool {w : World} {base : Nat} {e : TypeId} {c : Nat} {l : List Bool} {g i : Nat} (b : Bool) (h : Own w base e (some ⟨g, 0, none⟩) c l) (hi : i < l.length) : Own (w.setCell ⟨g, i, none⟩ (.bool b)) base e (some ⟨g, 0, none⟩) c (l.set i b) := by
  have := h.set_ (i := i) (j := 0) (x := l[i]) (y := b) (u := .bool b) rfl (List.getElem?_eq_getElem hi) (by decide) rfl
  simpa [Flat.sz] using this
theorem Own.set_int {w : World} {base : Nat} {e : TypeId} {c : Nat} {l : List Int} {g i : Nat} (b : Int) (h : Own w base e (some ⟨g, 0, none⟩) c l) (hi : i < l.length) : Own (w.setCell ⟨g, i, none⟩ (.int .i64 b)) base e (some ⟨g, 0, none⟩) c (l.set i b) := by
  have := h.set_ (i := i) (j := 0) (x := l[i]) (y := b) (u := .int .i64 b) rfl (List.getElem?_eq_getElem hi) (by decide) rfl
  simpa [Flat.sz] using this
theorem Own.cell_bool {w : World} {base : Nat} {e : TypeId} {c : Nat} {l : List Bool} {g i : Nat} {b : Bool} (h : Own w base e (some ⟨g, 0, none⟩) c l) (hi : l[i]? = some b) : w.cell? ⟨g, i, none⟩ = some (.bool b) := by
  have := h.cells_ (g := g) (o := 0) rfl (i * 1 + 0) (.bool b) (flat_get l i 0 b hi (by decide))
  simpa using this
theorem Own.cell_int {w : World} {base : Nat} {e : TypeId} {c : Nat} {l : List Int} {g i : Nat} {b : Int} (h : Own w base e (some ⟨g, 0, none⟩) c l) (hi : l[i]? = some b) : w.cell? ⟨g, i, none⟩ = some (.int .i64 b) := by
  have := h.cells_ (g := g) (o := 0) rfl (i * 1 + 0) (.int .i64 b) (flat_get l i 0 b hi (by decide))
  simpa using this

end Go.Proofs.YtdlcooplllimeaaGreatDoor

/- What a deed touches; a block that is a map holds no cells; an owned row of raw elements reads as what they are. No program is named here. -/
namespace Go.Proofs.YtdlcooplllimeaaGreatDoor
open Go.RowKit

namespace Top
/-- all but the blocks of F is as it was -/
structure Touch (F : Nat → Prop) (w w' : World) : Prop where
  os : w'.os = w.os
  tape : w'.tape = w.tape
  output : w'.output = w.output
  size : w.heap.size ≤ w'.heap.size
  block : ∀ g, g < w.heap.size → ¬ F g → w'.heap[g]? = w.heap[g]?

section
variable {F F' : Nat → Prop} {w w1 w' : World} {base : Nat}
theorem Touch.refl (F : Nat → Prop) (w : World) : Touch F w w := ⟨rfl, rfl, rfl, Nat.le_refl _, fun _ _ _ => rfl⟩
theorem Touch.trans (h : Touch F w w1) (h' : Touch F w1 w') : Touch F w w' :=
  ⟨h'.os.trans h.os, h'.tape.trans h.tape, h'.output.trans h.output, Nat.le_trans h.size h'.size, fun g hg hF => (h'.block g (Nat.lt_of_lt_of_le hg h.size) hF).trans (h.block g hg hF)⟩
theorem Touch.mono (h : Touch F w w') (hF : ∀ g, g < w.heap.size → F g → F' g) : Touch F' w w' := ⟨h.os, h.tape, h.output, h.size, fun g hg hn => h.block g hg (fun h1 => hn (hF g hg h1))⟩
theorem Touch.ofBelow (h : Below w.heap.size w w') : Touch F w w' := ⟨h.os, h.tape, h.output, h.size, fun g hg _ => h.block g hg⟩
theorem Touch.below (h : Touch F w w') (hF : ∀ g, F g → base ≤ g) (hb : base ≤ w.heap.size) : Below base w w' := ⟨h.os, h.tape, h.output, h.size, fun g hg => h.block g (by omega) (fun h1 => by have := hF g h1; omega)⟩
theorem Touch.setCell (h : Touch F w w1) {p : Addr} (hp : F p.block) (u : Value) : Touch F w (w1.setCell p u) :=
  ⟨h.os, h.tape, h.output, by have := h.size; simp [World.setCell]; exact this, fun g hg hF => (Below.heap_setCell _ _ _ _ (fun e => hF (by rw [e]; exact hp))).trans (h.block g hg hF)⟩
theorem Touch.alloc (h : Touch F w w1) (o : Obj) : Touch F w (w1.alloc o) :=
  ⟨h.os, h.tape, h.output, by have := h.size; simp; omega, fun g hg hF => (Below.heap_alloc w1 o g (by have := h.size; omega)).trans (h.block g hg hF)⟩
theorem Touch.drew (h : Touch F w w1) : Touch F w w1.drew := ⟨h.os, h.tape, h.output, h.size, h.block⟩
theorem Touch.drewN (h : Touch F w w1) (n : Nat) : Touch F w (w1.drewN n) := ⟨h.os, h.tape, h.output, h.size, h.block⟩
theorem Touch.grown (h : Touch F w w1) {row : Option Nat} (hg : w1.grownBy w' row) (hr : ∀ g, row = some g → F g) : Touch F w w' :=
  ⟨hg.os.trans h.os, hg.tape.trans h.tape, hg.output.trans h.output, Nat.le_trans h.size hg.size, fun g hl hF => (hg.block g (by have := h.size; omega) (fun e => hF (hr g e.symm))).trans (h.block g hl hF)⟩
theorem Touch.setRow (h : Touch F w w1) {g : Nat} (hp : F g) (cs : Array Value) : Touch F w (w1.setRow g cs) :=
  ⟨h.os, h.tape, h.output, by have := h.size; simp; exact this, fun k hg hF => (setRow_other w1 g k cs (fun e => hF (by rw [e]; exact hp))).trans (h.block k hg hF)⟩
theorem Touch.fresh (h : Touch F w w1) (hb : Below w1.heap.size w1 w') : Touch F w w' := h.trans (Touch.ofBelow hb)
end


/-- block b is a map -/
def IsMap (w : World) (b : Nat) : Prop := ∃ es n, w.heap[b]? = some (.map es n)
theorem IsMap.cell {w : World} {b : Nat} (h : IsMap w b) {p : Addr} (hp : p.block = b) : w.cell? p = none := by
  obtain ⟨es, n, h⟩ := h
  subst hp
  unfold World.cell?
  rw [h]
theorem IsMap.lt {w : World} {b : Nat} (h : IsMap w b) : b < w.heap.size := by obtain ⟨es, n, h⟩ := h; exact (Array.getElem?_eq_some_iff.1 h).1
/-- all but the map at M is as it was: all cells are -/
structure Mapt (M : Nat) (w w' : World) : Prop where
  touch : Touch (fun g => g = M) w w'
  old : IsMap w M
  new : IsMap w' M
section
variable {M : Nat} {w w1 w' : World}
theorem Mapt.refl (h : IsMap w M) : Mapt M w w := ⟨Touch.refl _ _, h, h⟩
theorem Mapt.trans (h : Mapt M w w1) (h' : Mapt M w1 w') : Mapt M w w' := ⟨h.touch.trans h'.touch, h.old, h'.new⟩
theorem Mapt.fresh (h : Mapt M w w1) (hb : Below w1.heap.size w1 w') : Mapt M w w' :=
  ⟨h.touch.fresh hb, h.old, by obtain ⟨es, n, h1⟩ := h.new; exact ⟨es, n, (hb.block M (Array.getElem?_eq_some_iff.1 h1).1).trans h1⟩⟩
theorem Mapt.size (h : Mapt M w w') : w.heap.size ≤ w'.heap.size := h.touch.size
theorem Mapt.cell (h : Mapt M w w') {p : Addr} (hp : p.block < w.heap.size) : w'.cell? p = w.cell? p := by
  by_cases e : p.block = M
  · rw [h.old.cell e, h.new.cell e]
  · exact World.cell?_of_block (w := w) (h.touch.block p.block hp e)
theorem Mapt.at_ {α : Type} [Enc α] (h : Mapt M w w') {B : Nat} {A : Option Addr} {l : List α} (ha : At w B A l) (hB : B ≤ w.heap.size) : At w' B A l := ha.keep fun p hp => h.cell (by omega)
theorem Mapt.blk (h : Mapt M w w') {g : Nat} {t : TypeId} {cs : Array Value} (hg : Blk w g t cs) : Blk w' g t cs := by
  have hne : g ≠ M := by
    intro e
    subst e
    obtain ⟨es, n, h1⟩ := h.old
    unfold Blk at hg
    rw [hg] at h1
    cases h1
  exact (h.touch.block g hg.lt hne).trans hg
theorem Mapt.below (h : Mapt M w w') {B : Nat} (hB : B ≤ M) (hw : B ≤ w.heap.size) : Below B w w' := h.touch.below (fun g e => by omega) hw
end

/-- an owned row of raw elements -/
theorem Own.at_raw {α : Type} [Enc α] {n : Nat} (hn : Enc.sz α = n) {w : World} {base : Nat} {e : TypeId} {A : Option Addr} {c : Nat} {rs : List (Raw n)} (h : Own w base e A c rs) {xs : List α} (hl : rs.length = xs.length)
    (hrd : ∀ (i : Nat) r x, rs[i]? = some r → xs[i]? = some x → Enc.rd w w.heap.size r.cs x) : At w w.heap.size A xs := by
  subst hn
  have h0 := h.at_ (fun _ _ => trivial)
  intro i x hx
  have hi : i < rs.length := by rw [hl]; exact (List.getElem?_eq_some_iff.1 hx).1
  obtain ⟨r, hr⟩ : ∃ r, rs[i]? = some r := ⟨_, List.getElem?_eq_getElem hi⟩
  obtain ⟨b, o, cs, hA, hb, hc, he, -⟩ := h0 i r hr
  subst he
  exact ⟨b, o, _, hA, hb, hc, hrd i r x hr hx⟩
end Top
end Go.Proofs.YtdlcooplllimeaaGreatDoor

/- Blocks of other element types than those of M stay as they are. No program is named here. -/
namespace Go.Proofs.YtdlcooplllimeaaGreatDoor
open Go.RowKit

namespace Top
def Kept (M : TypeId → Prop) (w w' : World) : Prop := ∀ (g : Nat) (cs : Array Value) (t : TypeId) (st : Nat × Nat), ¬ M t → w.heap[g]? = some (.cells cs t st) → w'.heap[g]? = w.heap[g]?
section
variable {M : TypeId → Prop} {a b c : World}
theorem Kept.refl (w : World) : Kept M w w := fun _ _ _ _ _ _ => rfl
theorem Kept.trans (h : Kept M a b) (h' : Kept M b c) : Kept M a c := fun g cs t st ht x => (h' g cs t st ht ((h g cs t st ht x).trans x)).trans (h g cs t st ht x)
theorem Kept.fresh (h : Below a.heap.size a b) : Kept M a b := fun g _ _ _ _ x => h.block g (Array.getElem?_eq_some_iff.1 x).1
theorem Kept.more {M' : TypeId → Prop} (h : Kept M a b) (hm : ∀ t, M t → M' t) : Kept M' a b := fun g cs t st ht x => h g cs t st (fun h1 => ht (hm t h1)) x
theorem own_blk {a : World} {α : Type} [Flat α] {base : Nat} {e : TypeId} {A : Option Addr} {c : Nat} {l : List α} (ho : Own a base e A c l) {g : Nat} (hg : rowOf A = some g) : ∃ cs, a.heap[g]? = some (.cells cs e (0, 0)) := by
  rcases ho.2 with ⟨h1, _⟩ | ⟨g', cap, cur, hv, _, hh, _⟩
  · injection h1 with h3; rw [h3] at hg; cases hg
  · injection hv with h3; rw [h3] at hg; injection hg with hg; simp only at hg; subst hg
    exact ⟨_, hh⟩
theorem Kept.own (h : Kept M a b) {α : Type} [Flat α] {base : Nat} {e : TypeId} {A : Option Addr} {c : Nat} {l : List α} (ho : Own a base e A c l) (he : ¬ M e) : Own b base e A c l :=
  ho.block_ fun g hg => by obtain ⟨cs, hc⟩ := own_blk ho hg; exact h g cs e _ he hc
theorem Kept.blk_ (h : Kept M a b) {g : Nat} {t : TypeId} {cs : Array Value} (hg : Blk a g t cs) (ht : ¬ M t) : Blk b g t cs := (h _ _ _ _ ht hg).trans hg
theorem Kept.set (h : Kept M a b) {g : Nat} {t : TypeId} {cs : Array Value} {st : Nat × Nat} (ho : b.heap[g]? = some (.cells cs t st)) (he : M t) (i : Nat) (u : Value) : Kept M a (b.setCell ⟨g, i, none⟩ u) :=
  h.trans fun g' cs' t' st' ht x => Below.heap_setCell _ _ _ _ (fun e => by
    subst e
    rw [ho] at x
    injection x with x
    injection x with _ x2 _
    exact ht (x2 ▸ he))
theorem Kept.setBlk (h : Kept M a b) {g : Nat} {t : TypeId} {cs : Array Value} (ho : Blk b g t cs) (he : M t) (i : Nat) (u : Value) : Kept M a (b.setCell ⟨g, i, none⟩ u) := h.set ho he i u
theorem Kept.setOwn (h : Kept M a b) {α : Type} [Flat α] {base : Nat} {e : TypeId} {A : Option Addr} {c : Nat} {l : List α} (ho : Own b base e A c l) (he : M e) {g i : Nat} (hg : rowOf A = some g) (u : Value) : Kept M a (b.setCell ⟨g, i, none⟩ u) := by
  obtain ⟨cs, hc⟩ := own_blk ho hg
  exact h.set hc he i u
theorem Kept.grown (h : Kept M a b) {α : Type} [Flat α] {base : Nat} {e : TypeId} {A : Option Addr} {d : Nat} {l : List α} (ho : Own b base e A d l) (he : M e) (hg : b.grownBy c (rowOf A)) : Kept M a c :=
  h.trans fun g cs t st ht x => hg.block g (Array.getElem?_eq_some_iff.1 x).1 (fun e' => by
    obtain ⟨cs2, h2⟩ := own_blk ho e'.symm
    rw [h2] at x
    injection x with x
    injection x with _ x2 _
    exact ht (x2 ▸ he))
theorem Kept.alloc (h : Kept M a b) (o : Obj) : Kept M a (b.alloc o) := h.trans (Kept.fresh ((Below.refl _ _).alloc (Nat.le_refl _) _))
theorem Kept.drew (h : Kept M a b) : Kept M a b.drew := h
theorem Kept.drewN (h : Kept M a b) (n : Nat) : Kept M a (b.drewN n) := h
end
end Top
end Go.Proofs.YtdlcooplllimeaaGreatDoor

/- code: what a program that was found right keeps to. No walk. -/
namespace Go.Proofs.YtdlcooplllimeaaGreatDoor
open Go.RowKit

namespace Top
/-- letters, by their numbers -/
def str3 (l : List Nat) : ByteArray := ⟨(l.map UInt8.ofNat).toArray⟩
/-- what names what: r 114, k 107, t 116, a 97, u 117, f 102, l 108, c 99, n 110, - 45 -/
def formL : List (List Nat) := [[], [114, 107, 45], [114, 114, 45], [114, 114, 114], [114, 114, 114], [114, 114, 114], [114, 114, 114], [114, 114, 114], [114, 114, 114], [114, 114, 114], [114, 114, 114], [114, 114, 45], [114, 114, 45],
  [97, 45, 45], [97, 45, 45], [114, 97, 45], [114, 45, 45], [114, 114, 116], [114, 116, 114], [114, 108, 110], [114, 114, 114], [114, 114, 114], [114, 45, 45], [114, 114, 45], [114, 114, 45], [114, 117, 45], [114, 102, 45], [114, 99, 110],
  [114, 45, 45], [114, 45, 45], [114, 97, 45], [45, 45, 45], [114, 114, 45], [114, 45, 45], [114, 45, 45], [114, 114, 45], [114, 114, 45], [114, 45, 45], [114, 45, 45]]
/-- where an order may lead -/
def tgt (nf : Nat) (i : In) : Prop := (i.op = 13 → 0 ≤ i.a) ∧ (i.op = 14 → 0 ≤ i.a) ∧ (i.op = 15 → 0 ≤ i.b) ∧ (i.op = 30 → 0 ≤ i.b) ∧ (i.op = 26 → 0 ≤ i.b ∧ i.b < nf)
/-- what a letter asks of a number -/
def asks (nf : Nat) (c : Nat) (n : Int) : Prop := (c = 97 → 0 ≤ n) ∧ (c = 102 → 0 ≤ n ∧ n < nf)
theorem tgt_of {nf : Nat} {i : In} {k : Nat} {x y z : Nat} (hk : i.op = k) (hf : formL[k]? = some [x, y, z]) (h1 : asks nf x i.a) (h2 : asks nf y i.b) : tgt nf i := by
  unfold asks at h1 h2
  unfold tgt
  rw [hk]
  refine ⟨fun h => ?_, fun h => ?_, fun h => ?_, fun h => ?_, fun h => ?_⟩
  · obtain rfl : k = 13 := by omega
    simp [formL] at hf
    exact h1.1 hf.1.symm
  · obtain rfl : k = 14 := by omega
    simp [formL] at hf
    exact h1.1 hf.1.symm
  · obtain rfl : k = 15 := by omega
    simp [formL] at hf
    exact h2.1 hf.2.1.symm
  · obtain rfl : k = 30 := by omega
    simp [formL] at hf
    exact h2.1 hf.2.1.symm
  · obtain rfl : k = 26 := by omega
    simp [formL] at hf
    exact h2.2 hf.2.1.symm
/-- each form has three letters -/
theorem formL_three : ∀ k : Nat, 0 < k → k < 39 → ∃ x y z, formL[k]? = some [x, y, z] ∧ x < 256 ∧ y < 256 ∧ z < 256 := by
  have h : ∀ k : Fin 39, 0 < k.val → ∃ x y z, formL[k.val]? = some [x, y, z] ∧ x < 256 ∧ y < 256 ∧ z < 256 := by
    intro k hk
    have : (formL[k.val]?.map fun l => l.length == 3 && l.all (· < 256)) = some true := by revert k; decide
    cases hl : formL[k.val]? with
    | none => rw [hl] at this; cases this
    | some l =>
      rw [hl] at this
      rcases l with _ | ⟨x, _ | ⟨y, _ | ⟨z, _ | ⟨u, l⟩⟩⟩⟩ <;> simp at this
      exact ⟨x, y, z, rfl, by omega, by omega, by omega⟩
  exact fun k h1 h2 => h ⟨k, h2⟩ h1
/-- a program that was found right -/
structure CdOk (p : Pg) : Prop where
  one : 1 ≤ p.fns.length ∧ p.fns.length ≤ 60
  fn : ∀ f ∈ p.fns, f.regs ≤ 60 ∧ f.code.length ≤ 600 ∧ ∀ i ∈ f.code, tgt p.fns.length i
end Top
end Go.Proofs.YtdlcooplllimeaaGreatDoor
