/- KT: Weak4. -/
import Derived.Test.YtdlcooplllimeaaGreatDoorKT25
import Derived.Shelf.GgClosure.Gives
/- The reference's From: what is reached, round by round. -/
namespace Go.Proofs.YtdlcooplllimeaaGreatDoor
open Go.RowKit

theorem ret_slice {A : Option Addr} {n m c : Nat} (h : n = m) : Ending.returned (.slice A n c) = .returned (.slice A m c) := by rw [h]
/-- what a round keeps in the middle of it -/
def MidSt (has : List (List Int)) (l : List Int) (pairs : List (Int × Int)) (_B : Nat) (s0 : List Bool) (S : World → List Bool → Bool → Prop) (i j q : Nat) (w : World) (s : List Bool) (m : Bool) : Prop :=
  S w s m ∧ RInv has l pairs s0 s m ∧ EClosed has s0 s i j ∧ PClosed pairs s0 s q
/-- the state of a round: the graph, what was seen, whether there is more -/
def SeeSt (w : World) (base G V M gS c : Nat) (hv rv : Value) (s : List Bool) (m : Bool) : Prop :=
  Blk w G 40 #[hv, rv] ∧ Blk w V 76 #[.slice (some ⟨gS, 0, none⟩) s.length c] ∧ Own w base 4 (some ⟨gS, 0, none⟩) c s ∧ Blk w M 4 #[.bool m] ∧ gS ≠ M ∧ base ≤ M ∧ base ≤ gS

theorem SeeSt.alloc {w : World} {base G V M gS c : Nat} {hv rv : Value} {s : List Bool} {m : Bool} (h : SeeSt w base G V M gS c hv rv s m) (o : Obj) : SeeSt (w.alloc o) base G V M gS c hv rv s m :=
  ⟨h.1.alloc _, h.2.1.alloc _, h.2.2.1.alloc _, h.2.2.2.1.alloc _, h.2.2.2.2⟩
theorem SeeSt.seen {w : World} {base G V M gS c : Nat} {hv rv : Value} {s : List Bool} {m m' : Bool} (h : SeeSt w base G V M gS c hv rv s m) {k : Nat} (hk : k < s.length) :
    SeeSt ((w.setCell ⟨M, 0, none⟩ (.bool m')).setCell ⟨gS, k, none⟩ (.bool true)) base G V M gS c hv rv (s.set k true) m' := by
  obtain ⟨h1, h2, h3, h4, h5, h6, h7⟩ := h
  have a1 : G ≠ M := fun e => by subst e; unfold Blk at h1 h4; rw [h1] at h4; injection h4 with h4; injection h4 with _ h4 _; exact absurd h4 (by decide)
  have a2 : V ≠ M := fun e => by subst e; unfold Blk at h2 h4; rw [h2] at h4; injection h4 with h4; injection h4 with _ h4 _; exact absurd h4 (by decide)
  have a3 : rowOf (some (⟨gS, 0, none⟩ : Addr)) ≠ some G := own_ne_ty h3 h1 (by decide)
  have a4 : rowOf (some (⟨gS, 0, none⟩ : Addr)) ≠ some V := own_ne_ty h3 h2 (by decide)
  have a3' : G ≠ gS := fun e => a3 (by rw [e]; rfl)
  have a4' : V ≠ gS := fun e => a4 (by rw [e]; rfl)
  refine ⟨(h1.far a1 _).far a3' _, ?_, (h3.setCell _ _ (fun e => h5 (by injection e))).set_bool true hk, ((h4.set_ 0 _).far (Ne.symm h5) _), h5, h6, h7⟩
  rw [List.length_set]
  exact (h2.far a2 _).far a4' _

theorem SeeSt.ne_ {w : World} {base G V M gS c : Nat} {hv rv : Value} {s : List Bool} {m : Bool} (h : SeeSt w base G V M gS c hv rv s m) : G ≠ M := by
  obtain ⟨h1, h2, h3, h4, h5, h6, h7⟩ := h
  exact fun e => by subst e; unfold Blk at h1 h4; rw [h1] at h4; injection h4 with h4; injection h4 with _ h4 _; exact absurd h4 (by decide)

theorem SeeSt.setm {w : World} {base G V M gS c : Nat} {hv rv : Value} {s : List Bool} {m : Bool} (h : SeeSt w base G V M gS c hv rv s m) (m' : Bool) : SeeSt (w.setCell ⟨M, 0, none⟩ (.bool m')) base G V M gS c hv rv s m' := by
  obtain ⟨h1, h2, h3, h4, h5, h6, h7⟩ := h
  have a1 : G ≠ M := fun e => by subst e; unfold Blk at h1 h4; rw [h1] at h4; injection h4 with h4; injection h4 with _ h4 _; exact absurd h4 (by decide)
  have a2 : V ≠ M := fun e => by subst e; unfold Blk at h2 h4; rw [h2] at h4; injection h4 with h4; injection h4 with _ h4 _; exact absurd h4 (by decide)
  exact ⟨h1.far a1 _, h2.far a2 _, h3.setCell _ _ (fun e => h5 (by injection e)), h4.set_ 0 _, h5, h6, h7⟩
theorem SeeSt.newm {w : World} {base G V M gS c : Nat} {hv rv : Value} {s : List Bool} {m : Bool} (h : SeeSt w base G V M gS c hv rv s m) (m' : Bool) : SeeSt (w.alloc (.cells #[.bool m'] 4)) base G V w.heap.size gS c hv rv s m' := by
  obtain ⟨h1, h2, h3, h4, h5, h6, h7⟩ := h
  have := (h3.lt gS rfl).2
  exact ⟨h1.alloc _, h2.alloc _, h3.alloc _, Blk.new _ _ _, by omega, by omega, h7⟩

end Go.Proofs.YtdlcooplllimeaaGreatDoor
