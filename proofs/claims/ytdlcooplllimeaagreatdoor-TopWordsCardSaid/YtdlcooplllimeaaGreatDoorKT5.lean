/- KT: Held, Held2, Held3. -/
import Derived.Test.YtdlcooplllimeaaGreatDoorKT1
import Derived.Deep.RegionHeld3
import Derived.Maps.RangeWalk
import Derived.KernelRfl
/- A region that draws, its operations taken one by one: one that is run in whatever order, one that a guard leaves out, one call. No program is named here. -/
namespace Go.Proofs.YtdlcooplllimeaaGreatDoor
open Go.RowKit

section
variable {P : Program} {ops : Array Oper} {Q : Exit → Act → World → Prop} {md : Region.Mode} {S : World → Prop} {fuel : Nat} {listed : Array Bool} {a : Act} {w : World}
theorem oi_of {i : Nat} {o : Oper} (h : ops.toList[i]? = some o) : ops[i]? = some o := by rw [← Array.getElem?_toList]; exact h
theorem held_take (i : Nat) {oi : Oper} {v : Value} (hi : ops.toList[i]? = some oi) (hs : Region.noSelect ops = true) (hf : Region.free md ops listed i = true) (hr : (Region.ready md ops listed).contains i = true)
    (hQ : ∀ c a w, Q (.panic c) (a.put oi.dst v) w → Q (.panic c) a w) (hw : Region.wanted oi (yielded ops a.tmps) = true) (hv : ∀ w, S w → (execOp a.eval oi).run P w = .ok (.value v) w) (hS : S w)
    (h : wpAnyH P md ops Q S fuel (listed.setIfInBounds i true) (a.put oi.dst v) w) : wpAnyH P md ops Q S (fuel + 1) listed a w := wpAnyH_take (oi_of hi) hs hf hr hQ (.inl ⟨hw, hv⟩) hS h
theorem held_skip (i : Nat) {oi : Oper} (hi : ops.toList[i]? = some oi) (hs : Region.noSelect ops = true) (hf : Region.free md ops listed i = true) (hr : (Region.ready md ops listed).contains i = true)
    (hQ : ∀ c a w, Q (.panic c) (a.put oi.dst undef) w → Q (.panic c) a w) (hw : Region.wanted oi (yielded ops a.tmps) = false) (hS : S w)
    (h : wpAnyH P md ops Q S fuel (listed.setIfInBounds i true) (a.put oi.dst undef) w) : wpAnyH P md ops Q S (fuel + 1) listed a w := wpAnyH_take (oi_of hi) hs hf hr hQ (.inr ⟨hw, rfl⟩) hS h
theorem htk (i : Nat) {oi : Oper} {v : Value} (hi : ops.toList[i]? = some oi) (h : wpAnyH P md ops Q S fuel (listed.setIfInBounds i true) (a.put oi.dst v) w)
    (hv : ∀ w, S w → (execOp a.eval oi).run P w = .ok (.value v) w := by (intro w hSw; (try dsimp only at hSw); go_simp; try with_reducible rfl))
    (hs : Region.noSelect ops = true := by kernel_rfl) (hf : Region.free md ops listed i = true := by kernel_rfl) (hr : (Region.ready md ops listed).contains i = true := by kernel_rfl)
    (hQ : ∀ c a w, Q (.panic c) (a.put oi.dst v) w → Q (.panic c) a w := by exact fun _ _ _ h => h) (hw : Region.wanted oi (yielded ops a.tmps) = true := by rfl) (hS : S w := by assumption) :
    wpAnyH P md ops Q S (fuel + 1) listed a w := wpAnyH_take (oi_of hi) hs hf hr hQ (.inl ⟨hw, hv⟩) hS h
theorem hsk (i : Nat) {oi : Oper} (hi : ops.toList[i]? = some oi) (h : wpAnyH P md ops Q S fuel (listed.setIfInBounds i true) (a.put oi.dst undef) w)
    (hs : Region.noSelect ops = true := by kernel_rfl) (hf : Region.free md ops listed i = true := by kernel_rfl) (hr : (Region.ready md ops listed).contains i = true := by kernel_rfl)
    (hQ : ∀ c a w, Q (.panic c) (a.put oi.dst undef) w → Q (.panic c) a w := by exact fun _ _ _ h => h) (hw : Region.wanted oi (yielded ops a.tmps) = false := by rfl) (hS : S w := by assumption) :
    wpAnyH P md ops Q S (fuel + 1) listed a w := wpAnyH_take (oi_of hi) hs hf hr hQ (.inr ⟨hw, rfl⟩) hS h
theorem held_call (i : Nat) {oi : Oper} (hr : Region.ready md ops listed = [i]) (hi : ops.toList[i]? = some oi)
    (h : ∀ K' : Act → World → Prop, Shut (∀ a w, S w → (S w → wpAnyH P md ops Q S fuel (listed.setIfInBounds i true) a w) → K' a w) → if Region.wanted oi (yielded ops a.tmps) = true then Oper.wp P oi a w K' Q else K' (a.put oi.dst undef) w) :
    wpAnyH P md ops Q S (fuel + 1) listed a w := wpAnyH_ready hr (by simp) (AllReadyH.cons (oi_of hi) h AllReadyH.nil)
end

end Go.Proofs.YtdlcooplllimeaaGreatDoor

/- A region that draws, where two operations are ready at once: both orders. No program is named here. -/
namespace Go.Proofs.YtdlcooplllimeaaGreatDoor
open Go.RowKit

section
variable {P : Program} {ops : Array Oper} {Q : Exit → Act → World → Prop} {md : Region.Mode} {S : World → Prop} {fuel : Nat} {listed : Array Bool} {a : Act} {w : World}
theorem held_call2 (i j : Nat) {oi oj : Oper} (hr : Region.ready md ops listed = [i, j]) (hi : ops.toList[i]? = some oi) (hj : ops.toList[j]? = some oj)
    (h1 : ∀ K' : Act → World → Prop, Shut (∀ a w, S w → (S w → wpAnyH P md ops Q S fuel (listed.setIfInBounds i true) a w) → K' a w) → if Region.wanted oi (yielded ops a.tmps) = true then Oper.wp P oi a w K' Q else K' (a.put oi.dst undef) w)
    (h2 : ∀ K' : Act → World → Prop, Shut (∀ a w, S w → (S w → wpAnyH P md ops Q S fuel (listed.setIfInBounds j true) a w) → K' a w) → if Region.wanted oj (yielded ops a.tmps) = true then Oper.wp P oj a w K' Q else K' (a.put oj.dst undef) w) :
    wpAnyH P md ops Q S (fuel + 1) listed a w := wpAnyH_ready hr (by simp) (AllReadyH.cons (oi_of hi) h1 (AllReadyH.cons (oi_of hj) h2 AllReadyH.nil))
theorem held_world (p : World → Prop) (h0 : p w) (h : ∀ w, p w → wpAnyH P md ops Q S fuel listed a w) : wpAnyH P md ops Q S fuel listed a w := h w h0
end

end Go.Proofs.YtdlcooplllimeaaGreatDoor

/- A region that draws, where three operations are ready at once: all orders. No program is named here. -/
namespace Go.Proofs.YtdlcooplllimeaaGreatDoor
open Go.RowKit

section
variable {P : Program} {ops : Array Oper} {Q : Exit → Act → World → Prop} {md : Region.Mode} {S : World → Prop} {fuel : Nat} {listed : Array Bool} {a : Act} {w : World}
theorem held_call3 (i j k : Nat) {oi oj ok : Oper} (hr : Region.ready md ops listed = [i, j, k]) (hi : ops.toList[i]? = some oi) (hj : ops.toList[j]? = some oj) (hk : ops.toList[k]? = some ok)
    (h1 : ∀ K' : Act → World → Prop, Shut (∀ a w, S w → (S w → wpAnyH P md ops Q S fuel (listed.setIfInBounds i true) a w) → K' a w) → if Region.wanted oi (yielded ops a.tmps) = true then Oper.wp P oi a w K' Q else K' (a.put oi.dst undef) w)
    (h2 : ∀ K' : Act → World → Prop, Shut (∀ a w, S w → (S w → wpAnyH P md ops Q S fuel (listed.setIfInBounds j true) a w) → K' a w) → if Region.wanted oj (yielded ops a.tmps) = true then Oper.wp P oj a w K' Q else K' (a.put oj.dst undef) w)
    (h3 : ∀ K' : Act → World → Prop, Shut (∀ a w, S w → (S w → wpAnyH P md ops Q S fuel (listed.setIfInBounds k true) a w) → K' a w) → if Region.wanted ok (yielded ops a.tmps) = true then Oper.wp P ok a w K' Q else K' (a.put ok.dst undef) w) :
    wpAnyH P md ops Q S (fuel + 1) listed a w := wpAnyH_ready hr (by simp) (AllReadyH.cons (oi_of hi) h1 (AllReadyH.cons (oi_of hj) h2 (AllReadyH.cons (oi_of hk) h3 AllReadyH.nil)))
end

end Go.Proofs.YtdlcooplllimeaaGreatDoor
