/- Lists of bools, of ints, of lists: cells read and stored; rows of different types are apart. -/
import Derived.Test.YtpkccpegdpodoaaRaws
namespace Go.Proofs.Ytpkccpegdpodoaa
open Go.RowKit

instance : Flat Bool where
  cells b := [.bool b]
  sz := 1
  len _ := rfl
  ok _ := True
theorem bool_one : ∀ x : Bool, ∀ u ∈ Flat.cells x, u.oneCell' = true := by
  intro x u hu; simp [Flat.cells] at hu; subst hu; rfl

theorem At.bool_ {w : World} {B : Nat} {A : Option Addr} {l : List Bool} {k : Nat} (h : At w B A l) (hk : k < l.length) :
    ∃ b o x, A = some ⟨b, o, none⟩ ∧ b < B ∧ l[k]? = some x ∧ w.cell? ⟨b, o + k, none⟩ = some (.bool x) := by
  obtain ⟨x, hx⟩ : ∃ x, l[k]? = some x := ⟨l[k], List.getElem?_eq_getElem hk⟩
  obtain ⟨b, o, cs, rfl, hb, hc, rfl, hok⟩ := h k x hx
  have h0 := hc 0 _ rfl
  simp only [Flat.sz, Enc.sz, Nat.mul_one, Nat.add_zero] at h0
  exact ⟨b, o, x, rfl, hb, hx, h0⟩
theorem At.slice_ {α : Type} [Enc α] {w : World} {B : Nat} {A : Option Addr} {l : List (List α)} {k : Nat} (h : At w B A l) (hk : k < l.length) :
    ∃ b o x A' c', A = some ⟨b, o, none⟩ ∧ b < B ∧ l[k]? = some x ∧ w.cell? ⟨b, o + k, none⟩ = some (.slice A' x.length c') ∧ At w B A' x ∧ x.length ≤ c' ∧ c' ≤ maxLen := by
  obtain ⟨x, hx⟩ : ∃ x, l[k]? = some x := ⟨l[k], List.getElem?_eq_getElem hk⟩
  obtain ⟨b, o, cs, rfl, hb, hc, A', c', rfl, h1, h2, -, h3⟩ := h k x hx
  have h0 := hc 0 _ rfl
  rw [show o + k * Enc.sz (List α) + 0 = o + k from by show o + k * 1 + 0 = o + k; omega] at h0
  exact ⟨b, o, x, A', c', rfl, hb, hx, h0, h3, h1, h2⟩
theorem At.nil_len {α : Type} [Enc α] {w : World} {B : Nat} {l : List α} (h : At w B none l) : l = [] := by
  rcases l with _ | ⟨x, l⟩
  · rfl
  · obtain ⟨b, o, cs, hA, -⟩ := h 0 x rfl
    cases hA

section
variable {α β : Type} [Flat α] [Flat β] {w : World} {base base' : Nat} {e e' : TypeId} {A A' : Option Addr} {c c' : Nat} {l : List α} {l' : List β}
theorem own_ne_ty (h : Own w base e A c l) {g : Nat} {t : TypeId} {cs : Array Value} (hg : Blk w g t cs) (hne : e ≠ t) : rowOf A ≠ some g := by
  intro hA
  rcases h.2 with ⟨h1, _⟩ | ⟨g', cap, cur, hv, _, hh, _⟩
  · injection h1 with h3; rw [h3] at hA; cases hA
  · injection hv with h3; rw [h3] at hA; injection hA with hA; simp only at hA; subst hA
    unfold Blk at hg
    rw [hh] at hg
    injection hg with hg; injection hg with _ hg _
    exact hne hg
theorem own_own_ty (h : Own w base e A c l) (h' : Own w base' e' A' c' l') (hne : e ≠ e') : ∀ g, rowOf A = some g → rowOf A' ≠ some g := by
  intro g hA hA'
  rcases h'.2 with ⟨h1, _⟩ | ⟨g', cap, cur, hv, _, hh, _⟩
  · injection h1 with h3; rw [h3] at hA'; cases hA'
  · injection hv with h3; rw [h3] at hA'; injection hA' with hA'; simp only at hA'; subst hA'
    rcases h.2 with ⟨h1, _⟩ | ⟨g2, cap2, cur2, hv2, _, hh2, _⟩
    · injection h1 with h3; rw [h3] at hA; cases hA
    · injection hv2 with h3; rw [h3] at hA; injection hA with hA; simp only at hA; subst hA
      rw [hh] at hh2
      injection hh2 with hh2; injection hh2 with _ hh2 _
      exact hne hh2.symm
theorem flat_take (l : List α) (k : Nat) (hk : k ≤ l.length) : (flat l).take (k * Flat.sz α) = flat (l.take k) := by
  have h := flat_append (l.take k) (l.drop k)
  rw [List.take_append_drop] at h
  rw [h, List.take_left' (by rw [flat_length, List.length_take, Nat.min_eq_left hk])]
theorem Own.take_ (h : Own w base e A c l) (k : Nat) (hk : k ≤ l.length) : Own w base e A c (l.take k) := by
  have hl : (l.take k).length = k := by rw [List.length_take]; omega
  have hf := flat_take l k hk
  refine ⟨flat_length _, ?_⟩
  rw [hl]
  rcases h.2 with ⟨h1, h2⟩ | ⟨g, cap, cur, hv, hg, hh, h1, h2, h3, h4⟩
  · injection h1 with h3 h4 h5
    have : k = 0 := by omega
    subst this
    exact .inl ⟨by rw [h3, h5], rfl⟩
  · injection hv with h5 _ h6
    subst h6
    refine .inr ⟨g, c, cur, by rw [h5], hg, hh, by omega, h2, h3, ?_⟩
    rw [← hf, ← h4, List.take_take, Nat.min_eq_left (Nat.mul_le_mul_right _ hk)]
theorem Own.ok_take {k : Nat} (h : ∀ x ∈ l, Flat.ok x) : ∀ x ∈ l.take k, Flat.ok x := fun x hx => h x (List.mem_of_mem_take hx)
end

theorem Own.set_bool {w : World} {base : Nat} {e : TypeId} {c : Nat} {l : List Bool} {g i : Nat} (b : Bool) (h : Own w base e (some ⟨g, 0, none⟩) c l) (hi : i < l.length) : Own (w.setCell ⟨g, i, none⟩ (.bool b)) base e (some ⟨g, 0, none⟩) c (l.set i b) := by
  have := h.set_ (i := i) (j := 0) (x := l[i]) (y := b) (u := .bool b) rfl (List.getElem?_eq_getElem hi) (by decide) rfl
  simpa [Flat.sz] using this
theorem Own.set_int {w : World} {base : Nat} {e : TypeId} {c : Nat} {l : List Int} {g i : Nat} (b : Int) (h : Own w base e (some ⟨g, 0, none⟩) c l) (hi : i < l.length) : Own (w.setCell ⟨g, i, none⟩ (.int .i64 b)) base e (some ⟨g, 0, none⟩) c (l.set i b) := by
  have := h.set_ (i := i) (j := 0) (x := l[i]) (y := b) (u := .int .i64 b) rfl (List.getElem?_eq_getElem hi) (by decide) rfl
  simpa [Flat.sz] using this
theorem Own.cell_bool {w : World} {base : Nat} {e : TypeId} {c : Nat} {l : List Bool} {g i : Nat} {b : Bool} (h : Own w base e (some ⟨g, 0, none⟩) c l) (hi : l[i]? = some b) : w.cell? ⟨g, i, none⟩ = some (.bool b) := by
  have := h.cells_ (g := g) (o := 0) rfl (i * 1 + 0) (.bool b) (flat_get l i 0 b hi (by decide))
  simpa using this
theorem Own.cell_int {w : World} {base : Nat} {e : TypeId} {c : Nat} {l : List Int} {g i : Nat} {b : Int} (h : Own w base e (some ⟨g, 0, none⟩) c l) (hi : l[i]? = some b) : w.cell? ⟨g, i, none⟩ = some (.int .i64 b) := by
  have := h.cells_ (g := g) (o := 0) rfl (i * 1 + 0) (.int .i64 b) (flat_get l i 0 b hi (by decide))
  simpa using this

end Go.Proofs.Ytpkccpegdpodoaa
