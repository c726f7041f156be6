/- KM: Haul7. -/
import Derived.Test.YtdlcooplllimeaaGreatDoorKM9
import Derived.Test.YtdlcooplllimeaaGreatDoorKT3
/- haul.Collect: what the heap keeps. -/
namespace Go.Proofs.YtdlcooplllimeaaGreatDoor
open Go.RowKit Go.Maps

attribute [local go_sem ↓] Go.wp_at_zero Go.wp_at_succ

theorem Own.set_u64 {w : World} {base : Nat} {e : TypeId} {c : Nat} {l : List U64} {g i : Nat} (b : U64) (h : Own w base e (some ⟨g, 0, none⟩) c l) (hi : i < l.length) : Own (w.setCell ⟨g, i, none⟩ (.int .u64 b.val)) base e (some ⟨g, 0, none⟩) c (l.set i b) := by
  have := h.set_ (i := i) (j := 0) (x := l[i]) (y := b) (u := .int .u64 b.val) rfl (List.getElem?_eq_getElem hi) (by decide) rfl
  simpa [Flat.sz] using this
theorem Own.cell_u64 {w : World} {base : Nat} {e : TypeId} {c : Nat} {l : List U64} {g i : Nat} {b : U64} (h : Own w base e (some ⟨g, 0, none⟩) c l) (hi : l[i]? = some b) : w.cell? ⟨g, i, none⟩ = some (.int .u64 b.val) := by
  have := h.cells_ (g := g) (o := 0) rfl (i * 1 + 0) (.int .u64 b.val) (flat_get l i 0 b hi (by decide))
  simpa using this

/-- a collection under way: the collector, and the moved roots, in a row of their own -/
def Hau.St (w0 w : World) (Z CB MB wc tc lc rc : Nat) (WA TA LA RA : Option Addr) (ws T : List U64) (F : List Nat) (out : List U64) : Prop :=
  Hau.Coll w Z CB MB wc tc lc WA TA LA ws T F ∧ Own w Z 73 RA rc out ∧ (∀ g, rowOf RA = some g → rowOf TA ≠ some g) ∧ Below Z w0 w
theorem Hau.St.fresh {w0 w w' : World} {Z CB MB wc tc lc rc : Nat} {WA TA LA RA : Option Addr} {ws T : List U64} {F : List Nat} {out : List U64} (h : Hau.St w0 w Z CB MB wc tc lc rc WA TA LA RA ws T F out) (hb : Below w.heap.size w w') : Hau.St w0 w' Z CB MB wc tc lc rc WA TA LA RA ws T F out :=
  ⟨h.1.fresh hb, h.2.1.fresh hb, h.2.2.1, h.2.2.2.trans (hb.mono (by have := h.1.1.lt; have := h.1.2.2.2.2.1; omega))⟩
/-- a word is moved -/
theorem Hau.St.moved {w0 w w' : World} {Z CB MB wc tc lc rc : Nat} {WA TA LA RA : Option Addr} {ws T : List U64} {F : List Nat} {out : List U64} {x : U64} {e : Ending} (h : Hau.St w0 w Z CB MB wc tc lc rc WA TA LA RA ws T F out) (hp : HmPost Z CB MB wc WA TA LA ws T F x w e w') :
    ∃ X TA' tc' LA' lc', Hau.addW F x = F ++ X ∧ e = .returned (.int .u64 (Hau.trn ws (F ++ X) x).val) ∧ Hau.St w0 w' Z CB MB wc tc' lc' rc WA TA' LA' RA ws (T ++ Hau.raw ws X) (F ++ X) out := by
  obtain ⟨h1, h2, h3, h4⟩ := h
  obtain ⟨hb, X, TA', tc', LA', lc', e1, e2, hc, hr, hk⟩ := hp
  refine ⟨X, TA', tc', LA', lc', e1, e2, hc, ?_, ?_, h4.trans hb⟩
  · exact h2.block_ fun g hg => hk g (h2.lt g hg).2 (fun e => own_ne_ty h2 h1.1 (by decide) (by rw [hg, e])) (fun e => own_ne_map h2 h1.2.2.2.1 (by rw [hg, e])) (h3 g hg) (fun e => own_own_ty h2 h1.2.2.1 (by decide) g hg e)
  · intro g hg e
    rcases hr with hr | ⟨k, hr, hk2⟩
    · exact h3 g hg (by rw [← hr]; exact e)
    · rw [hr] at e; injection e with e; subst e
      have := (h2.lt k hg).2
      omega
/-- a root is appended -/
theorem Hau.St.rooted {w0 w v w' : World} {Z CB MB wc tc lc rc rc' : Nat} {WA TA LA RA RA' : Option Addr} {ws T : List U64} {F : List Nat} {out out' : List U64} (h : Hau.St w0 w Z CB MB wc tc lc rc WA TA LA RA ws T F out) (hv : Below w.heap.size w v)
    (ho : Own w' Z 73 RA' rc' out') (hg : v.grownBy w' (rowOf RA)) (ha : rowOf RA' = rowOf RA ∨ rowOf RA' = some v.heap.size) : Hau.St w0 w' Z CB MB wc tc lc rc' WA TA LA RA' ws T F out' := by
  have hz := h.1.2.2.2.2.1
  have hl := h.1.1.lt
  have hs := hv.size
  obtain ⟨⟨c1, c2, c3, c4, c5⟩, h2, h3, h4⟩ := h.fresh hv
  refine ⟨⟨c1.grown hg (fun e => own_ne_ty h2 c1 (by decide) e), c2.grown hg (fun g hg e => h3 g e hg), c3.grown hg (fun g hg e => own_own_ty c3 h2 (by decide) g hg e), c4.kept hg (fun e => own_ne_map h2 c4 e.symm), c5⟩, ho, ?_, h4.grown hg (by omega) (fun g hg => (h2.lt g hg).1)⟩
  intro g hg e
  rcases ha with ha | ha
  · exact h3 g (by rw [← ha]; exact hg) e
  · rw [ha] at hg; injection hg with hg; subst hg
    have := (c2.lt _ e).2
    omega
/-- a word is stored -/
theorem Hau.St.put {w0 w : World} {Z CB MB wc tc lc rc g i : Nat} {WA LA RA : Option Addr} {ws T : List U64} {F : List Nat} {out : List U64} (h : Hau.St w0 w Z CB MB wc tc lc rc WA (some ⟨g, 0, none⟩) LA RA ws T F out) (hi : i < T.length) (b : U64) :
    Hau.St w0 (w.setCell ⟨g, i, none⟩ (.int .u64 b.val)) Z CB MB wc tc lc rc WA (some ⟨g, 0, none⟩) LA RA ws (T.set i b) F out := by
  obtain ⟨⟨c1, c2, c3, c4, c5⟩, h2, h3, h4⟩ := h
  have hg := (c2.lt g rfl).1
  refine ⟨⟨?_, c2.set_u64 b hi, c3.setCell _ _ (fun e => own_own_ty c3 c2 (by decide) g e rfl), c4.setCell (fun e => own_ne_map c2 c4 (by rw [e]; rfl)) _, c5⟩, h2.setCell _ _ (fun e => h3 g e rfl), h3, h4.setCell hg _⟩
  rw [List.length_set]
  exact c1.far (fun e => own_ne_ty c2 c1 (by decide) (by rw [e]; rfl)) _

end Go.Proofs.YtdlcooplllimeaaGreatDoor
