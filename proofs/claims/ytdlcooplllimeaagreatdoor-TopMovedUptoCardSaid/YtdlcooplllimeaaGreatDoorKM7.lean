/- KM: Haul4. -/
import Derived.Test.YtdlcooplllimeaaGreatDoorKM6
import Derived.Deep.CutRange
/- R.wordFits, R.HeapFault. -/
namespace Go.Proofs.YtdlcooplllimeaaGreatDoor
open Go.RowKit Go.Maps

attribute [local go_sem ↓] Go.wp_at_zero Go.wp_at_succ

/-- do words, from some on, fit? -/
def Hau.upto (ws : List U64) (k : Nat) : Prop := ∀ i, i < k → ((Hau.places ws).contains i || Hau.fits (Hau.places ws) (Hau.wat ws i)) = true
theorem Hau.upto_ok {ws : List U64} (h : Hau.upto ws ws.length) : Hau.wordsOk ws = true := by
  unfold Hau.wordsOk
  rw [List.all_eq_true]
  intro i hi
  exact h i (List.mem_range.1 hi)
theorem Hau.upto_no {ws : List U64} {k : Nat} (hk : k < ws.length) (h : ((Hau.places ws).contains k || Hau.fits (Hau.places ws) (Hau.wat ws k)) = false) : Hau.wordsOk ws = false := by
  rw [Bool.eq_false_iff]
  intro hw
  unfold Hau.wordsOk at hw
  have := List.all_eq_true.1 hw k (List.mem_range.2 hk)
  rw [h] at this; cases this
def Hau.rupto (ws roots : List U64) (k : Nat) : Prop := ∀ x ∈ roots.take k, Hau.fits (Hau.places ws) x = true
theorem Hau.rupto_ok {ws roots : List U64} (h : Hau.rupto ws roots roots.length) : Hau.rootsOk ws roots = true := by
  unfold Hau.rootsOk
  rw [List.all_eq_true]
  intro x hx
  exact h x (by rw [List.take_length]; exact hx)
theorem Hau.rupto_no {ws roots : List U64} {k : Nat} (hk : k < roots.length) (h : Hau.fits (Hau.places ws) (Hau.wat roots k) = false) : Hau.rootsOk ws roots = false := by
  rw [Bool.eq_false_iff]
  intro hw
  unfold Hau.rootsOk at hw
  have := List.all_eq_true.1 hw (Hau.wat roots k) (by unfold Hau.wat; rw [List.getD_eq_getElem?_getD, List.getElem?_eq_getElem hk]; exact List.getElem_mem hk)
  rw [h] at this; cases this
theorem Hau.rupto_next {ws roots : List U64} {k : Nat} (hk : k < roots.length) (h : Hau.rupto ws roots k) (hf : Hau.fits (Hau.places ws) (Hau.wat roots k) = true) : Hau.rupto ws roots (k + 1) := by
  intro x hx
  rw [List.take_add_one, List.getElem?_eq_getElem hk, Option.toList_some] at hx
  rcases List.mem_append.1 hx with hx | hx
  · exact h x hx
  · simp at hx
    have : Hau.wat roots k = x := by unfold Hau.wat; rw [List.getD_eq_getElem?_getD, List.getElem?_eq_getElem hk, hx]; rfl
    rw [← this]; exact hf
/-- the places of right words are within -/
theorem Hau.places_lt (ws : List U64) : ∀ q ∈ Hau.places ws, q < ws.length := by
  have key : ∀ f p, ∀ q ∈ Hau.objs ws f p, q < ws.length := by
    intro f
    induction f with
    | zero => intro p q h; cases h
    | succ f ih =>
      intro p q h
      unfold Hau.objs at h
      split at h
      · rcases List.mem_cons.1 h with rfl | h
        · assumption
        · exact ih _ q h
      · cases h
  exact key _ _
theorem Hau.objs_len (ws : List U64) : ∀ f p, (Hau.objs ws f p).length ≤ ws.length - p
  | 0, p => by simp [Hau.objs]
  | f + 1, p => by
    unfold Hau.objs
    split
    · have := Hau.objs_len ws f (p + Hau.sz ws p)
      have := Hau.sz_pos ws p
      rw [List.length_cons]; omega
    · simp
theorem Hau.places_len (ws : List U64) : (Hau.places ws).length ≤ ws.length := by have := Hau.objs_len ws (ws.length + 1) 0; unfold Hau.places; omega

/-- a heap's two lists, as a struct's cells -/
def HpAt (w : World) (B : Nat) (h : Hp) (WA RA : Option Addr) : Prop := At w B WA h.words ∧ At w B RA h.roots

end Go.Proofs.YtdlcooplllimeaaGreatDoor
