/- KT: TopLaid. -/
import Derived.Test.YtdlcooplllimeaaGreatDoorKT18
import Derived.Test.YtdlcooplllimeaaGreatDoorRows
import Derived.Lib.LaidU8
import Derived.LaidMore
import Derived.LaidHandle
import Derived.Deep.DeepHandedRow
import Derived.Deep.DeepWitnessRef
/- What a row's listed variables give: the library's table of white space; a start that meets the condition. -/
namespace Go.Proofs.YtdlcooplllimeaaGreatDoor
open Go.RowKit Go.Shelf

namespace Top
def laid2 : List (String × DataW Unit) := [("unicode.White_Space", Rows.laid_unicode_White_Space), ("strings.asciiSpace", Rows.laid_strings_asciiSpace)]
theorem gAscii : Tryz.prog.globalNamed "strings.asciiSpace" = some (wordsL_ren.g 0) := by kernel_rfl
theorem tAscii : (Tryz.prog.globals[wordsL_ren.g 0]?).map (·.type) = some 248 := by kernel_rfl
theorem ascii_data : (Rows.laid_strings_asciiSpace : DataW Unit) = Lib.tabData .u8 ((List.range 256).map fun c => if Lib.isSp (UInt8.ofNat c) then 1 else 0) := by kernel_rfl
theorem tabs_of_laid {W : World} (h : laidMetH Tryz.prog laid2 W) : Tabs W := by
  rw [MakeChecks.laidMetH_plain _ _ _ (by kernel_rfl)] at h
  obtain ⟨g, t, cs, fuel, p, hg, ht, hv, hd⟩ := Lib.laidMet.reads h (n := "strings.asciiSpace") (.tail _ (.head _))
  have e1 : g = wordsL_ren.g 0 := Option.some.inj (hg.symm.trans gAscii)
  subst e1
  have e2 : t = 248 := Option.some.inj (ht.symm.trans tAscii)
  subst e2
  rw [ascii_data] at hd
  have hcs := Lib.cells_of_tab Tryz.underlying248 Tryz.underlying5 (by kernel_rfl) (by kernel_rfl) hd
  intro c hc
  have h1 := World.var?_cell hg hv c
  rw [h1, ← Array.getElem?_toList, hcs, List.getElem?_map, List.getElem?_map, List.getElem?_range hc]
  rfl
noncomputable def door (os : Os) : World := World.doorLaid Tryz.prog 400 os
theorem door_met (os : Os) (args : Array Value) : laidMetH Tryz.prog laid2 ((door os).forCall (fun _ _ => 0) ⟨#[], args, []⟩).memory :=
  laidMetH_of_parts3 (fuel := 8) (laidMet_of_run' 8 (by kernel_rfl) (by kernel_rfl)) (by kernel_rfl) (by kernel_rfl)
theorem door_shaped (os : Os) (args : Array Value) : ((door os).forCall (fun _ _ => 0) ⟨#[], args, []⟩).Shaped Tryz.prog := World.shaped_of_RefB (by kernel_rfl) (by kernel_rfl)
section
variable {H : Type} {enc : TypeId × Value → H}
theorem witness_row_sh {C : Checked} {os : Os} {f : FuncId} {fn : Func} {s : OpenSpec} {conds : List PathCond} {apart : Bool} {laid : List (String × DataW Unit)} (modest : Bool) (w0 : World) (args : Array Value) (hos : w0.os = os)
    (hsh : (w0.forCall (fun _ _ => 0) ⟨#[], args, []⟩).Shaped C.prog) (hok : Input.okWideB C.prog (w0.forCall (fun _ _ => 0) ⟨#[], args, []⟩) f ⟨#[], args, []⟩ = true)
    (hrow : s.preRow enc C.prog fn conds apart laid (w0.forCall (fun _ _ => 0) ⟨#[], args, []⟩).memory args) :
    ∃ (w : World) (tape : Tape) (i : Input), w.os = os ∧ (w.forCall tape i).Shaped C.prog ∧ i.vars = [] ∧ Input.okWide C.prog (w.forCall tape i) .any w.heap.size f i ∧
      s.preRow enc C.prog fn conds apart laid (w.forCall tape i).memory i.args ∧ ({ modest := modest } : Assume).holds C.prog (lone (Frame.enter C.prog f i.args .normal) [] (w.forCall tape i)) :=
  ⟨w0, fun _ _ => 0, ⟨#[], args, []⟩, hos, hsh, (Input.okWide_of_okWideB (base := 0) hok).1, (Input.okWide_of_okWideB hok).2, hrow, by
    simp only [Assume.holds]
    exact ⟨by simp, by simp, fun _ => Modest.zero, by simp, by simp⟩⟩
theorem preRow_cond {P : Program} {fn : Func} {s : OpenSpec} {k : (H : Type) → List (DataW H) → Bool} (hk : s.cond = some k) {conds : List PathCond} {apart : Bool} {laid : List (String × DataW Unit)} {w : World} {args : Array Value} (fuel : Nat)
    {x : List (DataW H) × List (DataW H) × List MemPlace} (hx : DataW.whole enc P w fn.params.toList s.vars apart args.toList fuel = some x)
    (hconds : conds.all (PathCond.test P ⟨fn.params.toList, x.1, s.bare.plain.varTypes P, x.2.1⟩) = true) (hkk : k H (x.1 ++ x.2.1) = true) (hl : laidMetH P laid w) (hsz : s.bare.sizedB enc P fn apart w args fuel = true) :
    s.preRow enc P fn conds apart laid w args :=
  ⟨⟨(OpenSpec.pre_some hk conds apart _ _).2 ⟨x.1, x.2.1, x.2.2, DataW.Whole_of_whole hx, hconds, hkk⟩, hl⟩, sizedMet_of_sizedB hsz⟩
end
end Top
end Go.Proofs.YtdlcooplllimeaaGreatDoor
