/- KT: WrdA. -/
import Derived.Test.YtdlcooplllimeaaGreatDoorKT13
import Derived.Test.YtdlcooplllimeaaGreatDoorKT17
import Derived.Shelf.Strings.Fields
/- ops.Words: some list of strings. -/
namespace Go.Proofs.YtdlcooplllimeaaGreatDoor
open Go.RowKit Go.Shelf

namespace Top
/-- the library's table of white space stands as it was laid -/
def Tabs (w : World) : Prop := ∀ c : Nat, c < 256 → w.cell? ⟨wordsL_ren.g 0, c, none⟩ = some (.int .u8 (if Lib.isSp (UInt8.ofNat c) then 1 else 0))
theorem Tabs.fresh {w w' : World} (h : Tabs w) (hb : Below w.heap.size w w') : Tabs w' := fun c hc => by
  have h1 := h c hc
  exact (hb.cell (World.block_lt_of_cell? _ _ h1)).trans h1
def wordsS : ByteArray := ⟨#[107, 105, 110, 100, 32, 114, 97, 110, 103, 101, 32, 122, 101, 114, 111, 32, 105, 110, 100, 101, 120, 32, 108, 97, 114, 103, 101, 32, 100, 101, 101, 112, 32, 115, 116, 97, 116, 101, 32, 99, 111, 117, 110, 116, 32, 110, 105, 108, 32, 98, 111, 111, 108, 32, 105, 110, 116, 32, 102, 108, 111, 97, 116, 32, 116, 101, 120, 116, 32, 111, 98, 106, 101, 99, 116, 32, 108, 105, 115, 116, 32, 102, 117, 110, 99, 116, 105, 111, 110, 32, 103, 101, 110, 101, 114, 97, 116, 111, 114, 32, 108, 111, 99, 107, 32, 119, 101, 97, 107]⟩
def wordsB : List ByteArray := (Lib.fields wordsS.data.toList).map fun l => ⟨l.toArray⟩
theorem wordsB_len : wordsB.length = 19 := by kernel_rfl
theorem wordsB_small : ∀ x ∈ wordsB, x.size ≤ maxLen := by
  have h : wordsB.all (fun x => x.size ≤ 100) = true := by kernel_rfl
  intro x hx
  have := List.all_eq_true.1 h x hx
  simp at this
  unfold maxLen
  omega
theorem words_any (w : World) (hT : Tabs w) : Calls Tryz.prog 114 #[] w fun e w' => ∃ A, e = .returned (.slice A 19 19) ∧ At w' w'.heap.size A wordsB ∧ Below w.heap.size w w' := by
  have hf := Any.strings_Fields_core wordsL (by kernel_rfl) wordsS w (by decide) (by
    have h : (wordsS.data.toList.all fun b => b.toNat < 128) = true := by kernel_rfl
    intro j b hb
    simpa using List.all_eq_true.1 h b (List.mem_of_getElem? hb)) hT
  have hl : (Lib.fields wordsS.data.toList).length = 19 := by kernel_rfl
  rw [hl] at hf
  have hcs : ((Lib.fields wordsS.data.toList).map fun l => Value.string ⟨l.toArray⟩) = wordsB.map Value.string := by unfold wordsB; rw [List.map_map]; rfl
  rw [hcs] at hf
  have HF := Lib.hid hf; clear hf hcs hl
  go_enter Tryz.func114, Tryz.ntmps114
  go_wp2_with fail
  refine HF.out.mono ?_
  rintro e w' ⟨rfl, hw⟩
  have HW := Lib.hid hw; clear hw
  go_wp2_with fail
  go_returns
  refine ⟨_, rfl, ?_, by rw [HW.out]; exact (Below.refl _ _).alloc (Nat.le_refl _) _⟩
  rw [HW.out]
  intro i x hx
  refine ⟨w.heap.size, 0, [.string x], rfl, by simp, fun j u hu => ?_, rfl, wordsB_small x (List.mem_of_getElem? hx)⟩
  have hj : j = 0 := by
    have := (List.getElem?_eq_some_iff.1 hu).1
    simp at this; exact this
  subst hj
  simp at hu
  subst hu
  rw [World.cell?_alloc_at _ _ _ _ rfl, List.getElem?_toArray, List.getElem?_map, show 0 + i * Enc.sz ByteArray + 0 = i from by show 0 + i * 1 + 0 = i; omega, hx]
  rfl
end Top
end Go.Proofs.YtdlcooplllimeaaGreatDoor
