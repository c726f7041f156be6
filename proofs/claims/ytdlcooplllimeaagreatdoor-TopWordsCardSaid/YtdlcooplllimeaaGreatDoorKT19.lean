/- KT: MapI. -/
import Derived.Test.YtdlcooplllimeaaGreatDoorKT13
import Derived.Maps.Own
import Derived.Maps.OwnOps
/- A map of the call's own, of which only that it is one is known. -/
namespace Go.Proofs.YtdlcooplllimeaaGreatDoor
open Go.RowKit Go.Maps

namespace Top
theorem wf64 {x : Int} (h : I64 x) : (Lit.int .i64 x).wf = true := by
  unfold I64 at h
  have h1 : IntKind.i64.min = -9223372036854775808 := by decide
  have h2 : IntKind.i64.max = 9223372036854775807 := by decide
  simp only [Lit.wf, h1, h2, Bool.and_eq_true, decide_eq_true_eq]
  omega
/-- block b is a map of at most n entries, its elements are whole numbers -/
def MapN (w : World) (k b n : Nat) : Prop := ∃ D : DataW Unit, w.ownsMap Tryz.prog k (plainElem Tryz.prog 3) b n D
theorem MapN.kept {w w' : World} {k b n : Nat} (h : MapN w k b n) (hb : Below w.heap.size w w') : MapN w' k b n := by
  obtain ⟨D, h⟩ := h
  exact ⟨D, h.kept (grownBy_below none hb) (by simp)⟩
theorem MapN.lt {w : World} {k b n : Nat} (h : MapN w k b n) : b < w.heap.size := by obtain ⟨D, h⟩ := h; exact h.lt
theorem MapN.made (w : World) (k : Nat) : MapN (w.alloc (.map #[] 0)) k w.heap.size 0 := ⟨_, World.ownsMap_made _ _ _ _⟩
theorem MapN.drewN {w : World} {k b n : Nat} (h : MapN w k b n) (m : Nat) : MapN (w.drewN m) k b n := h
theorem MapN.look {w : World} {k t b n : Nat} (h : MapN w k b n) (K : Keyed Tryz.prog k) (ht : Tryz.prog.underlying t = some (.map k 3)) {key : Value} {kl : Lit} (hkey : keyOf Tryz.prog k key = some kl) :
    ∃ c, (Instr.lookup t (.map (some b)) key false).run Tryz.prog w = .ok (.int .i64 c) w := by
  obtain ⟨D, h⟩ := h
  obtain ⟨c, h1, -, -⟩ := h.lookup_int K ht Tryz.underlying3 (Tryz.zeroValue3 _) hkey
  exact ⟨c, h1⟩
/-- m[k] = v -/
theorem MapN.upd {w : World} {k t b n : Nat} (h : MapN w k b n) (K : Keyed Tryz.prog k) (ht : Tryz.prog.underlying t = some (.map k 3)) (hn : n < maxLen) {key : Value} {kl : Lit} (hkey : keyOf Tryz.prog k key = some kl) {x : Int} (hx : I64 x) :
    ∃ w', (Instr.mapUpdate t (.map (some b)) key (.int .i64 x)).run Tryz.prog w = .ok () w' ∧ MapN w' k b (n + 1) ∧ w.grownBy w' (some b) := by
  obtain ⟨D, h⟩ := h
  obtain ⟨w', h1, h2, h3⟩ := h.update K ht hn hkey (plainElem_int Tryz.underlying3 (wf64 hx))
  exact ⟨w', h1, ⟨_, h2⟩, h3⟩
theorem lawInt : Keyed Tryz.prog 3 := int_keyed Tryz.underlying3
theorem keyInt {x : Int} (h : I64 x) : keyOf Tryz.prog 3 (.int .i64 x) = some (.int .i64 x) := keyOf_int_mk Tryz.underlying3 (wf64 h)
theorem lawStr : Keyed Tryz.prog 9 := string_keyed Tryz.underlying9
end Top
end Go.Proofs.YtdlcooplllimeaaGreatDoor
