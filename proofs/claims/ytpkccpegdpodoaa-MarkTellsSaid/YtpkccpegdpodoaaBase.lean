/-
  The words by which this family's contracts speak of memory: Go's data as Lean's ('Enc'), a slice that reads as a list ('At'), rows of the call's own. No program is named here.
-/
import Derived.WalkKit
import Derived.WalkLawsBesides
import Derived.WalkSpells
import Derived.Lib.Hide
import Derived.Laws.OwnMore
import Derived.Maps.AppendAt
import Derived.Deep.AppendLies
import Derived.Deep.Draws
import Derived.Deep.Slices
namespace Go.Proofs.Ytpkccpegdpodoaa
open Go.RowKit

/-- a number that an int holds -/
def I64 (n : Int) : Prop := -9223372036854775808 ≤ n ∧ n ≤ 9223372036854775807

theorem block_of_add (a : Addr) (n : Nat) : (a.add n).block = a.block := by unfold Addr.add; split <;> rfl
theorem add_of_add (a : Addr) (i j : Nat) : (a.add i).add j = a.add (i + j) := by
  unfold Addr.add
  by_cases hi : i = 0 <;> by_cases hj : j = 0 <;> simp [hi, hj, Nat.add_assoc]
theorem add_mk (b o n : Nat) : (⟨b, o, none⟩ : Addr).add n = ⟨b, o + n, none⟩ := by
  unfold Addr.add; split <;> simp_all

/-- the cells cs stand from offset o of block b on -/
def CellsAt (w : World) (b o : Nat) (cs : List Value) : Prop := ∀ j u, cs[j]? = some u → w.cell? ⟨b, o + j, none⟩ = some u

theorem CellsAt.keep {w w' : World} {b o : Nat} {cs : List Value} (h : CellsAt w b o cs) (hk : ∀ p : Addr, p.block = b → w'.cell? p = w.cell? p) : CellsAt w' b o cs :=
  fun j u hu => (hk _ rfl).trans (h j u hu)

/-- a Go type's data as Lean's: how many cells it has, and when cells read as it (all that they lead to lies below block B) -/
class Enc (α : Type) where
  sz : Nat
  rd : World → Nat → List Value → α → Prop
  len : ∀ {w : World} {B : Nat} {cs : List Value} {x : α}, rd w B cs x → cs.length = sz
  keep : ∀ {w w' : World} {B : Nat} {cs : List Value} {x : α}, rd w B cs x → (∀ p : Addr, p.block < B → w'.cell? p = w.cell? p) → rd w' B cs x
  more : ∀ {w : World} {B B' : Nat} {cs : List Value} {x : α}, rd w B cs x → B ≤ B' → rd w B' cs x

/-- a type whose cells are its own: no pointers -/
class Flat (α : Type) where
  cells : α → List Value
  sz : Nat
  len : ∀ x : α, (cells x).length = sz
  ok : α → Prop

instance (priority := low) encOfFlat {α : Type} [Flat α] : Enc α where
  sz := Flat.sz α
  rd _ _ cs x := cs = Flat.cells x ∧ Flat.ok x
  len h := by rw [h.1]; exact Flat.len _
  keep h _ := h
  more h _ := h

instance : Flat Int where
  cells n := [.int .i64 n]
  sz := 1
  len _ := rfl
  ok n := I64 n

/-- the slice address A reads as the list xs -/
def At {α : Type} [Enc α] (w : World) (B : Nat) (A : Option Addr) (xs : List α) : Prop :=
  ∀ i x, xs[i]? = some x → ∃ b o cs, A = some ⟨b, o, none⟩ ∧ b < B ∧ CellsAt w b (o + i * Enc.sz α) cs ∧ Enc.rd w B cs x

section
variable {α : Type} [Enc α] {w w' : World} {B B' : Nat} {A : Option Addr} {xs : List α}
theorem At.nil_ : At w B A ([] : List α) := fun i x h => by simp at h
theorem At.keep (h : At w B A xs) (hk : ∀ p : Addr, p.block < B → w'.cell? p = w.cell? p) : At w' B A xs := fun i x hx => by
  obtain ⟨b, o, cs, hA, hb, hc, hr⟩ := h i x hx
  exact ⟨b, o, cs, hA, hb, hc.keep fun p hp => hk p (by omega), Enc.keep hr hk⟩
theorem At.more (h : At w B A xs) (hB : B ≤ B') : At w B' A xs := fun i x hx => by
  obtain ⟨b, o, cs, hA, hb, hc, hr⟩ := h i x hx
  exact ⟨b, o, cs, hA, by omega, hc, Enc.more hr hB⟩
theorem At.below (h : At w B A xs) (hb : Below B w w') : At w' B A xs := h.keep fun _ hp => hb.cell hp
theorem At.alloc (h : At w B A xs) (hB : B ≤ w.heap.size) (o : Obj) : At (w.alloc o) B A xs := h.keep fun p hp => World.cell?_alloc_lt w o p (by omega)
theorem At.setCell (h : At w B A xs) {p : Addr} (hB : B ≤ p.block) (u : Value) : At (w.setCell p u) B A xs := h.keep fun q hq => World.cell?_setCell_other w p q u (fun e => by subst e; omega)
theorem At.drew (h : At w B A xs) : At w.drew B A xs := h.keep fun _ _ => rfl
theorem At.drewN (h : At w B A xs) (n : Nat) : At (w.drewN n) B A xs := h.keep fun _ _ => rfl
end

instance {α : Type} [Enc α] : Enc (List α) where
  sz := 1
  rd w B cs xs := ∃ A cap, cs = [.slice A xs.length cap] ∧ xs.length ≤ cap ∧ cap ≤ maxLen ∧ (A = none → cap = 0) ∧ At w B A xs
  len h := by obtain ⟨A, cap, rfl, _⟩ := h; rfl
  keep h hk := by obtain ⟨A, cap, h1, h2, h3, h4, h5⟩ := h; exact ⟨A, cap, h1, h2, h3, h4, h5.keep hk⟩
  more h hB := by obtain ⟨A, cap, h1, h2, h3, h4, h5⟩ := h; exact ⟨A, cap, h1, h2, h3, h4, h5.more hB⟩

theorem below_drewN {B : Nat} {a w : World} (h : Below B a w) (n : Nat) : Below B a (w.drewN n) := ⟨h.os, h.tape, h.output, h.size, h.block⟩

theorem undrew {B : Nat} {a w : World} (h : Below B a.drew w) : Below B a w := ⟨h.os, h.tape, h.output, h.size, h.block⟩
theorem undrewN {B : Nat} {a w : World} {n : Nat} (h : Below B (a.drewN n) w) : Below B a w := ⟨h.os, h.tape, h.output, h.size, h.block⟩

theorem Below.cells {B : Nat} {w w' : World} (hb : Below B w w') : ∀ p : Addr, p.block < B → w'.cell? p = w.cell? p := fun _ hp => hb.cell hp

section
variable {α : Type} [Enc α] {w w' : World} {B : Nat} {cs : List Value} {x : α}
theorem Enc.below (h : Enc.rd w B cs x) (hb : Below B w w') : Enc.rd w' B cs x := Enc.keep h (Below.cells hb)
end

end Go.Proofs.Ytpkccpegdpodoaa
