/- KM: Haul3. -/
import Derived.Test.YtdlcooplllimeaaGreatDoorKM5
/- R.Places, R.Has, R.wordFits. -/
namespace Go.Proofs.YtdlcooplllimeaaGreatDoor
open Go.RowKit Go.Maps

attribute [local go_sem ↓] Go.wp_at_zero Go.wp_at_succ

def RPlPost (ws : List U64) (w : World) (e : Ending) (w' : World) : Prop := Below w.heap.size w w' ∧
  ((Hau.okW ws = true ∧ ∃ OA oc, e = .returned (.tuple #[.slice OA (Hau.places ws).length oc, .bool true]) ∧ Own w' w.heap.size 3 OA oc (ints (Hau.places ws))) ∨ (Hau.okW ws = false ∧ e = .returned (.tuple #[.slice none 0 0, .bool false])))

theorem take_snocH {α : Type} (l : List α) (k : Nat) (x : α) (h : l[k]? = some x) : l.take (k + 1) = l.take k ++ [x] := by
  rw [List.take_add_one, h]; rfl

end Go.Proofs.YtdlcooplllimeaaGreatDoor
