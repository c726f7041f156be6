/-
  slices.Clone and the reference's Copy at plain element types: a list of the call's own that reads as the argument.
-/
import Derived.Test.YtpkccpegdpodoaaRowz
namespace Go.Proofs.Ytpkccpegdpodoaa
open Go.RowKit

/-- what a copying call leaves: a slice of its own that holds the list -/
def Copied {α : Type} [Flat α] (E : TypeId) (l : List α) (w : World) (e : Ending) (w' : World) : Prop :=
  ∃ A' c', e = .returned (.slice A' l.length c') ∧ Own w' w.heap.size E A' c' l ∧ Below w.heap.size w w'

theorem own_new0 {α : Type} [Flat α] (w : World) (base : Nat) (E : TypeId) (cs : Array Value) (hcs : cs = #[]) (hb : base ≤ w.heap.size) : Own (α := α) (w.alloc (.cells cs E)) base E (some ⟨w.heap.size, 0, none⟩) 0 ([] : List α) :=
  World.ownsRow_made w cs 0 hb (by simp [maxLen]) (by simp [hcs])

theorem below_app {w w1 w' : World} {A : Option Addr} {B : Nat} (hb : Below B w w1) (hg : w1.grownBy w' (rowOf A)) (hB : B ≤ w1.heap.size) (hA : ∀ g, rowOf A = some g → B ≤ g) : Below B w w' := hb.grown hg hB hA

end Go.Proofs.Ytpkccpegdpodoaa
