/- KT: MapS. -/
import Derived.Test.YtdlcooplllimeaaGreatDoorKT19
import Derived.DeepKeys3
/- A map whose keys are shapes; a look-up that stays the same. -/
namespace Go.Proofs.YtdlcooplllimeaaGreatDoor
open Go.RowKit Go.Maps

namespace Top
theorem lawShape : Keyed Tryz.prog 121 := Keyed.of_law (deep_law (m := 2) (by omega) (by kernel_rfl) (by kernel_rfl) (by kernel_rfl))
theorem keyShape {a b : Int} (ha : I64 a) (hb : I64 b) : ∃ kl, keyOf Tryz.prog 121 (.agg #[.int .i64 a, .int .i64 b]) = some kl := by
  have hk : Tryz.prog.keyType 121 = true := by kernel_rfl
  have hc : Tryz.prog.cellsOf 121 = 2 := by kernel_rfl
  have hi : Tryz.prog.cellsOf 3 = 1 := by kernel_rfl
  have hpos : decide (0 < Tryz.prog.types.size) = true := by kernel_rfl
  have hs : ∃ n, Tryz.prog.types.size = n + 1 := ⟨Tryz.prog.types.size - 1, by have := of_decide_eq_true hpos; omega⟩
  obtain ⟨n, hs⟩ := hs
  have h1 : ∀ d x, I64 x → Tryz.prog.keyLits (d + 1) 3 [.int .i64 x] = some [.int .i64 x] := fun d x hx => by
    simp [Program.keyLits, Tryz.underlying3, wf64 hx]
  have hf : (Value.agg #[.int .i64 a, .int .i64 b]).formed Tryz.prog 121 = true := by
    simp [Value.formed, Tryz.underlying121, hc]
  have hl : Tryz.prog.keyLits (Tryz.prog.types.size + 1) 121 [.int .i64 a, .int .i64 b] = some [.int .i64 a, .int .i64 b] := by
    rw [hs]
    unfold Program.keyLits
    simp [Tryz.underlying121, hc, hi, h1 n a ha, h1 n b hb]
  refine ⟨.string (keyBytes [.int .i64 a, .int .i64 b]), ?_⟩
  unfold keyOf
  rw [Tryz.underlying121]
  simp only [hk, hf, Bool.and_self, if_true]
  show (Tryz.prog.keyLits (Tryz.prog.types.size + 1) 121 [.int .i64 a, .int .i64 b]).map _ = _
  rw [hl]
  rfl
/-- m[k], now and later -/
theorem MapN.looks {w : World} {k t b n : Nat} (h : MapN w k b n) (K : Keyed Tryz.prog k) (ht : Tryz.prog.underlying t = some (.map k 3)) {key : Value} {kl : Lit} (hkey : keyOf Tryz.prog k key = some kl) :
    ∃ c, ∀ w', Below w.heap.size w w' → (Instr.lookup t (.map (some b)) key false).run Tryz.prog w' = .ok (.int .i64 c) w' := by
  obtain ⟨D, h⟩ := h
  obtain ⟨c, -, hat, -⟩ := h.lookup_int K ht Tryz.underlying3 (Tryz.zeroValue3 _) hkey
  refine ⟨c, fun w' hb => ?_⟩
  have h' := h.kept (grownBy_below none hb) (by simp)
  obtain ⟨c', h1, hat', -⟩ := h'.lookup_int K ht Tryz.underlying3 (Tryz.zeroValue3 _) hkey
  have e := hat.symm.trans hat'
  simp only [DataW.lit.injEq, Lit.int.injEq, true_and] at e
  rw [e]; exact h1
end Top
end Go.Proofs.YtdlcooplllimeaaGreatDoor
