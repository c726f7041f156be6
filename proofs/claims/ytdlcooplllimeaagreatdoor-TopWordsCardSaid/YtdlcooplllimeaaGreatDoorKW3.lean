/- KW: HeldT. -/
import Derived.Test.YtdlcooplllimeaaGreatDoorKT5
/- A region that draws, whose loads come ahead of one operation t: up to t a condition S on the world stands (a load may be taken first), from t on the lesser condition Z alone. No program is named here. -/
namespace Go.Proofs.YtdlcooplllimeaaGreatDoor
open Go.RowKit

section
variable {P : Program} {ops : Array Oper} {Q : Exit → Act → World → Prop} {md : Region.Mode} {S Z : World → Prop} {t : Nat}
def waitsFor (ops : Array Oper) (md : Region.Mode) (t i : Nat) : Bool := ((ops[t]?).map fun o => o.after.any fun e => Region.binds md e && (e.on == i)).getD false
def AnyT (P : Program) (md : Region.Mode) (ops : Array Oper) (Q : Exit → Act → World → Prop) (S Z : World → Prop) (t : Nat) : Nat → Array Bool → Act → World → Prop
  | 0, listed, a, w => Region.ready md ops listed = [] ∧ Q .normal a w
  | fuel + 1, listed, a, w => (Region.ready md ops listed = [] → Q .normal a w) ∧
      (∀ i ∈ Region.ready md ops listed, i ≠ t → wpOp P ops Q i (fun a' w' => S w' ∧ AnyT P md ops Q S Z t fuel (listed.setIfInBounds i true) a' w') a w) ∧
      (t ∈ Region.ready md ops listed → wpOp P ops Q t (fun a' w' => Z w' ∧ wpAnyH P md ops Q Z fuel (listed.setIfInBounds t true) a' w') a w)
theorem AnyT.any : ∀ (fuel : Nat) (listed : Array Bool) (a : Act) (w : World), AnyT P md ops Q S Z t fuel listed a w → wpAny P md ops Q fuel listed a w
  | 0, _, _, _, h => h
  | fuel + 1, listed, _, _, h => ⟨h.1, fun i hi => by
      by_cases e : i = t
      · subst e; exact wpOp_mono (fun a' w' h' => wpAny_of_held _ _ _ _ h'.2) (h.2.2 hi)
      · exact wpOp_mono (fun a' w' h' => AnyT.any fuel _ a' w' h'.2) (h.2.1 i hi e)⟩
theorem waits_not {i : Nat} {listed : Array Bool} (hw : waitsFor ops md t i = true) (hi : listed.getD i true = false) : t ∉ Region.ready md ops listed := by
  intro h
  obtain ⟨-, o, ho, hall⟩ := mem_ready.1 h
  unfold waitsFor at hw
  rw [ho] at hw
  simp only [Option.map_some, Option.getD_some] at hw
  obtain ⟨n, hn, he⟩ := Array.any_eq_true.1 hw
  simp only [Bool.and_eq_true, beq_iff_eq] at he
  have h1 := hall _ (Array.getElem_mem hn) he.1
  rw [he.2] at h1
  rcases Nat.lt_or_ge i listed.size with h' | h'
  · simp [h'] at hi h1; rw [hi] at h1; cases h1
  · simp [Array.getElem?_eq_none h'] at h1
theorem anyT_first {i : Nat} {oi : Oper} {v : Value} (hi : ops[i]? = some oi) (hsel : ∀ (j : Nat) (o : Oper) cs b, ops[j]? = some o → o.op ≠ .select cs b)
    (hQ : ∀ c a w, Q (.panic c) (a.put oi.dst v) w → Q (.panic c) a w) (hwt : waitsFor ops md t i = true) :
    ∀ (fuel : Nat) (listed : Array Bool) (a : Act) (w : World),
      (∀ j oj, ops[j]? = some oj → j ≠ i → listed.getD j true = false → (∀ e ∈ oj.after, Region.binds md e = true → e.on ≠ i) → oi.apart ops oj = true) →
      i ∈ Region.ready md ops listed → YieldsIf P ops S oi v a → S w → i ≠ t →
      AnyT P md ops Q S Z t fuel (listed.setIfInBounds i true) (a.put oi.dst v) w → AnyT P md ops Q S Z t (fuel + 1) listed a w := by
  intro fuel
  induction fuel with
  | zero =>
    intro listed a w _ hr hy hS hit H
    refine ⟨fun h => (by rw [h] at hr; cases hr), fun j hj hjt => ?_, fun h => absurd h (waits_not hwt (mem_ready.1 hr).1)⟩
    by_cases hji : j = i
    · subst hji; exact hy.wpOp hi hS ⟨hS, H⟩
    · have := ready_mono hj hji
      rw [H.1] at this
      cases this
  | succ fuel ih =>
    intro listed a w hfree hr hy hS hit H
    refine ⟨fun h => (by rw [h] at hr; cases hr), fun j hj hjt => ?_, fun h => absurd h (waits_not hwt (mem_ready.1 hr).1)⟩
    by_cases hji : j = i
    · subst hji; exact hy.wpOp hi hS ⟨hS, H⟩
    · have h1 := H.2.1 j (ready_mono hj hji) hjt
      obtain ⟨hjun, oj, hoj, hall⟩ := mem_ready.1 hj
      have hnot : ∀ e ∈ oj.after, Region.binds md e = true → e.on ≠ i := fun e he hb heq => by
        have h2 := hall e he hb
        have h0 := (mem_ready.1 hr).1
        rw [heq] at h2
        rcases Nat.lt_or_ge i listed.size with h' | h'
        · simp [h'] at h0 h2; rw [h0] at h2; cases h2
        · simp [Array.getElem?_eq_none h'] at h2
      refine wpOp_mono (fun a' w' h3 => ⟨h3.2.1, ih (listed.setIfInBounds j true) a' w' ?_ (ready_mono hr (Ne.symm hji)) h3.1 h3.2.1 hit ?_⟩) (wpOp_putIf hoj (hfree j oj hoj hji hjun hnot) (fun cs b => hsel i oi cs b hi) (fun cs b => hsel j oj cs b hoj) hQ hy h1)
      · intro k ok hk hki hun hno
        refine hfree k ok hk hki ?_ hno
        by_cases hjk : j = k
        · subst hjk; exact hjun
        · rw [getD_set_ne true hjk] at hun; exact hun
      · rw [Array.setIfInBounds_comm _ _ hji]
        exact h3.2.2
theorem anyT_firstZ {i : Nat} {oi : Oper} {v : Value} (hi : ops[i]? = some oi) (hsel : ∀ (j : Nat) (o : Oper) cs b, ops[j]? = some o → o.op ≠ .select cs b)
    (hQ : ∀ c a w, Q (.panic c) (a.put oi.dst v) w → Q (.panic c) a w) (hSZ : ∀ w, S w → Z w) :
    ∀ (fuel : Nat) (listed : Array Bool) (a : Act) (w : World),
      (∀ j oj, ops[j]? = some oj → j ≠ i → listed.getD j true = false → (∀ e ∈ oj.after, Region.binds md e = true → e.on ≠ i) → oi.apart ops oj = true) →
      i ∈ Region.ready md ops listed → YieldsIf P ops Z oi v a → S w → i ≠ t →
      AnyT P md ops Q S Z t fuel (listed.setIfInBounds i true) (a.put oi.dst v) w → AnyT P md ops Q S Z t (fuel + 1) listed a w := by
  intro fuel
  have hun : ∀ {listed : Array Bool} {j : Nat} {oj : Oper}, i ∈ Region.ready md ops listed → (∀ e ∈ oj.after, Region.binds md e = true → listed.getD e.on false = true) → ∀ e ∈ oj.after, Region.binds md e = true → e.on ≠ i := fun {listed j oj} hr hall e he hb heq => by
    have h2 := hall e he hb
    have h0 := (mem_ready.1 hr).1
    rw [heq] at h2
    rcases Nat.lt_or_ge i listed.size with h' | h'
    · simp [h'] at h0 h2; rw [h0] at h2; cases h2
    · simp [Array.getElem?_eq_none h'] at h2
  have hset : ∀ {listed : Array Bool} {j : Nat}, listed.getD j true = false → (∀ j oj, ops[j]? = some oj → j ≠ i → listed.getD j true = false → (∀ e ∈ oj.after, Region.binds md e = true → e.on ≠ i) → oi.apart ops oj = true) →
      ∀ k ok, ops[k]? = some ok → k ≠ i → (listed.setIfInBounds j true).getD k true = false → (∀ e ∈ ok.after, Region.binds md e = true → e.on ≠ i) → oi.apart ops ok = true := fun {listed j} hj hfree k ok hk hki hu hno => by
    refine hfree k ok hk hki ?_ hno
    by_cases hjk : j = k
    · subst hjk; exact hj
    · rw [getD_set_ne true hjk] at hu; exact hu
  induction fuel with
  | zero =>
    intro listed a w _ hr hy hS hit H
    have hall : ∀ j ∈ Region.ready md ops listed, j = i := fun j hj => by
      by_cases hji : j = i
      · exact hji
      · have := ready_mono hj hji
        rw [H.1] at this
        cases this
    refine ⟨fun h => (by rw [h] at hr; cases hr), fun j hj hjt => ?_, fun h => absurd (hall t h).symm hit⟩
    obtain rfl := hall j hj
    exact hy.wpOp hi (hSZ _ hS) ⟨hS, H⟩
  | succ fuel ih =>
    intro listed a w hfree hr hy hS hit H
    refine ⟨fun h => (by rw [h] at hr; cases hr), fun j hj hjt => ?_, fun hj => ?_⟩
    · by_cases hji : j = i
      · subst hji; exact hy.wpOp hi (hSZ _ hS) ⟨hS, H⟩
      · have h1 := H.2.1 j (ready_mono hj hji) hjt
        obtain ⟨hjun, oj, hoj, hall⟩ := mem_ready.1 hj
        refine wpOp_mono (fun a' w' h3 => ⟨h3.2.1, ih (listed.setIfInBounds j true) a' w' (hset hjun hfree) (ready_mono hr (Ne.symm hji)) h3.1 h3.2.1 hit ?_⟩) (wpOp_putIf hoj (hfree j oj hoj hji hjun (hun (j := j) hr hall)) (fun cs b => hsel i oi cs b hi) (fun cs b => hsel j oj cs b hoj) hQ hy h1)
        rw [Array.setIfInBounds_comm _ _ hji]
        exact h3.2.2
    · have h1 := H.2.2 (ready_mono hj (Ne.symm hit))
      obtain ⟨hjun, oj, hoj, hall⟩ := mem_ready.1 hj
      refine wpOp_mono (fun a' w' h3 => ⟨h3.2.1, wpAnyH_first hi hsel hQ fuel (listed.setIfInBounds t true) a' w' (hset hjun hfree) (ready_mono hr hit) h3.1 h3.2.1 ?_⟩) (wpOp_putIf hoj (hfree t oj hoj (Ne.symm hit) hjun (hun (j := t) hr hall)) (fun cs b => hsel i oi cs b hi) (fun cs b => hsel t oj cs b hoj) hQ hy h1)
      rw [Array.setIfInBounds_comm _ _ (Ne.symm hit)]
      exact h3.2.2
variable {fuel : Nat} {listed : Array Bool} {a : Act} {w : World}
theorem ztk (i : Nat) {oi : Oper} {v : Value} (hi : ops.toList[i]? = some oi) (h : AnyT P md ops Q S Z t fuel (listed.setIfInBounds i true) (a.put oi.dst v) w)
    (hv : ∀ w, Z w → (execOp a.eval oi).run P w = .ok (.value v) w := by (intro w hSw; (try dsimp only at hSw); go_simp; try with_reducible rfl)) (hSZ : ∀ w, S w → Z w := by (intro w hSw; first | trivial | exact hSw.1))
    (hs : Region.noSelect ops = true := by kernel_rfl) (hf : Region.free md ops listed i = true := by kernel_rfl) (hr : (Region.ready md ops listed).contains i = true := by kernel_rfl)
    (hQ : ∀ c a w, Q (.panic c) (a.put oi.dst v) w → Q (.panic c) a w := by exact fun _ _ _ h => h) (hw : Region.wanted oi (yielded ops a.tmps) = true := by rfl) (hS : S w := by assumption) (hit : i ≠ t := by decide) :
    AnyT P md ops Q S Z t (fuel + 1) listed a w := anyT_firstZ (oi_of hi) (Region.noSelect_spec hs) hQ hSZ fuel listed a w (Region.free_spec (oi_of hi) hf) (by simpa using hr) (.inl ⟨hw, hv⟩) hS hit h
theorem ttk (i : Nat) {oi : Oper} {v : Value} (hi : ops.toList[i]? = some oi) (h : AnyT P md ops Q S Z t fuel (listed.setIfInBounds i true) (a.put oi.dst v) w)
    (hv : ∀ w, S w → (execOp a.eval oi).run P w = .ok (.value v) w := by (intro w hSw; (try dsimp only at hSw); go_simp; try with_reducible rfl))
    (hs : Region.noSelect ops = true := by kernel_rfl) (hf : Region.free md ops listed i = true := by kernel_rfl) (hr : (Region.ready md ops listed).contains i = true := by kernel_rfl) (hwt : waitsFor ops md t i = true := by kernel_rfl)
    (hQ : ∀ c a w, Q (.panic c) (a.put oi.dst v) w → Q (.panic c) a w := by exact fun _ _ _ h => h) (hw : Region.wanted oi (yielded ops a.tmps) = true := by rfl) (hS : S w := by assumption) (hit : i ≠ t := by decide) :
    AnyT P md ops Q S Z t (fuel + 1) listed a w := anyT_first (oi_of hi) (Region.noSelect_spec hs) hQ hwt fuel listed a w (Region.free_spec (oi_of hi) hf) (by simpa using hr) (.inl ⟨hw, hv⟩) hS hit h
theorem callT (i : Nat) {oi : Oper} (hr : Region.ready md ops listed = [i]) (hit : i ≠ t) (hi : ops.toList[i]? = some oi)
    (h : ∀ K' : Act → World → Prop, Shut (∀ a w, S w → (S w → AnyT P md ops Q S Z t fuel (listed.setIfInBounds i true) a w) → K' a w) → if Region.wanted oi (yielded ops a.tmps) = true then Oper.wp P oi a w K' Q else K' (a.put oi.dst undef) w) :
    AnyT P md ops Q S Z t (fuel + 1) listed a w := by
  refine ⟨fun h0 => absurd (hr ▸ h0) (by simp), fun j hj _ => ?_, fun ht => absurd ht (by rw [hr]; simpa using fun e => hit e.symm)⟩
  rw [hr] at hj
  obtain rfl := List.mem_singleton.1 hj
  unfold wpOp
  rw [oi_of hi]
  have h1 := h (fun a' w' => S w' ∧ AnyT P md ops Q S Z t fuel (listed.setIfInBounds j true) a' w') (fun a w hS hT => ⟨hS, hT hS⟩)
  simp only
  split at h1
  · rename_i hw; rw [if_pos hw]; exact .inl h1
  · rename_i hw; rw [if_neg hw]; exact h1
theorem lastT {oi : Oper} (hr : Region.ready md ops listed = [t]) (hi : ops.toList[t]? = some oi)
    (h : ∀ K' : Act → World → Prop, Shut (∀ a w, Z w → (Z w → wpAnyH P md ops Q Z fuel (listed.setIfInBounds t true) a w) → K' a w) → if Region.wanted oi (yielded ops a.tmps) = true then Oper.wp P oi a w K' Q else K' (a.put oi.dst undef) w) :
    AnyT P md ops Q S Z t (fuel + 1) listed a w := by
  refine ⟨fun h0 => absurd (hr ▸ h0) (by simp), fun j hj hjt => ?_, fun _ => ?_⟩
  · rw [hr] at hj
    exact absurd (List.mem_singleton.1 hj) hjt
  · unfold wpOp
    rw [oi_of hi]
    have h1 := h (fun a' w' => Z w' ∧ wpAnyH P md ops Q Z fuel (listed.setIfInBounds t true) a' w') (fun a w hZ hT => ⟨hZ, hT hZ⟩)
    simp only
    split at h1
    · rename_i hw; rw [if_pos hw]; exact .inl h1
    · rename_i hw; rw [if_neg hw]; exact h1
theorem wp_region_T (t : Nat) {id : Nat} {a : Act} {w : World} (hm : P.follows .mixedOrders = true) (hS : S w.drew)
    (h : S w.drew → AnyT P .any ops Q S Z t ops.size (Array.replicate ops.size false) a w.drew) : (Code.region id ops true).wp P Q a w :=
  wp_region_any hm (AnyT.any _ _ _ _ (h hS))
end

end Go.Proofs.YtdlcooplllimeaaGreatDoor
