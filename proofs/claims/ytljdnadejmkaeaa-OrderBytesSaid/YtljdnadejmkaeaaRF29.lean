/- RF: Held. -/
import Derived.Test.YtljdnadejmkaeaaRF1
import Derived.Deep.RegionHeld3
/- A region that draws, its operations taken one by one: one that is run in whatever order, one that a guard leaves out, one call. No program is named here. -/
namespace Go.Proofs.Ytljdnadejmkaeaa
open Go.RowKit

section
variable {P : Program} {ops : Array Oper} {Q : Exit → Act → World → Prop} {md : Region.Mode} {S : World → Prop} {fuel : Nat} {listed : Array Bool} {a : Act} {w : World}
theorem oi_of {i : Nat} {o : Oper} (h : ops.toList[i]? = some o) : ops[i]? = some o := by rw [← Array.getElem?_toList]; exact h
theorem held_take (i : Nat) {oi : Oper} {v : Value} (hi : ops.toList[i]? = some oi) (hs : Region.noSelect ops = true) (hf : Region.free md ops listed i = true) (hr : (Region.ready md ops listed).contains i = true)
    (hQ : ∀ c a w, Q (.panic c) (a.put oi.dst v) w → Q (.panic c) a w) (hw : Region.wanted oi (yielded ops a.tmps) = true) (hv : ∀ w, S w → (execOp a.eval oi).run P w = .ok (.value v) w) (hS : S w)
    (h : wpAnyH P md ops Q S fuel (listed.setIfInBounds i true) (a.put oi.dst v) w) : wpAnyH P md ops Q S (fuel + 1) listed a w := wpAnyH_take (oi_of hi) hs hf hr hQ (.inl ⟨hw, hv⟩) hS h
theorem held_skip (i : Nat) {oi : Oper} (hi : ops.toList[i]? = some oi) (hs : Region.noSelect ops = true) (hf : Region.free md ops listed i = true) (hr : (Region.ready md ops listed).contains i = true)
    (hQ : ∀ c a w, Q (.panic c) (a.put oi.dst undef) w → Q (.panic c) a w) (hw : Region.wanted oi (yielded ops a.tmps) = false) (hS : S w)
    (h : wpAnyH P md ops Q S fuel (listed.setIfInBounds i true) (a.put oi.dst undef) w) : wpAnyH P md ops Q S (fuel + 1) listed a w := wpAnyH_take (oi_of hi) hs hf hr hQ (.inr ⟨hw, rfl⟩) hS h
theorem held_call (i : Nat) {oi : Oper} (hr : Region.ready md ops listed = [i]) (hi : ops.toList[i]? = some oi)
    (h : ∀ K' : Act → World → Prop, Shut (∀ a w, S w → (S w → wpAnyH P md ops Q S fuel (listed.setIfInBounds i true) a w) → K' a w) → if Region.wanted oi (yielded ops a.tmps) = true then Oper.wp P oi a w K' Q else K' (a.put oi.dst undef) w) :
    wpAnyH P md ops Q S (fuel + 1) listed a w := wpAnyH_ready hr (by simp) (AllReadyH.cons (oi_of hi) h AllReadyH.nil)
end

end Go.Proofs.Ytljdnadejmkaeaa
