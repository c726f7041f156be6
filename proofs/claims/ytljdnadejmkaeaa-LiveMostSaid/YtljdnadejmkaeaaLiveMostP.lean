/-
  live.Most answers as the document says: any spans. No condition beyond the form's own.
-/
import Derived.Test.YtljdnadejmkaeaaLive18
import Derived.Test.YtljdnadejmkaeaaOpen
import Derived.Test.YtljdnadejmkaeaaWrap
namespace Go.Proofs.Ytljdnadejmkaeaa
open Go.RowKit Go.ChangeShapes Go.WideShapes Go.Deep

set_option maxRecDepth 100000 in
theorem liveMost_lifted (os : Os) (started : os.Started) (H : Type) (enc : TypeId × Value → H) :
    ReturnsInHanded {} Try.checked os 8 .any (Rows.liveMostSpec.pre6 enc Try.prog Try.f8 Rows.liveMostRow.domain false) (Rows.liveMostSpec.post enc Try.prog Try.f8 false true false false) := by
  refine returnsInHanded_of_change_sized (C := Try.checked) prog_own started (by kernel_rfl) Try.func8
    (ChangeSpec.witness6 (enc := enc) (C := Try.checked) false ⟨#[], #[.slice none 0 0], []⟩ 8 (by kernel_rfl) (by kernel_rfl) (by kernel_rfl) (by kernel_rfl)) ?_
  intro W base args ds gs before hval0 hW _ hsz0 _
  have hsz : (DataW.weightsEach Try.prog (Try.f8.params.toList ++ Rows.liveMostSpec.plain.varTypes Try.prog) (ds ++ gs)).all (· ≤ reachBytes) = true := hsz0
  clear hsz0
  have hval : ∀ (j : Nat) t v, Try.f8.params[j]? = some t → args[j]? = some v → Value.okWide Try.prog W .any base t v := hval0
  have hW' := hW
  obtain ⟨p, q, hA0, hV, rfl, -, -⟩ := hW
  have hA : DataW.TrodAll enc Try.prog W 0 (fun _ => true) true Try.f8.params.toList args.toList ds p := hA0
  rw [Try.params8] at hA hval hsz
  obtain ⟨v0, vs0, d0, ds0, p0, q0, hargs, rfl, rfl, h0, r0⟩ := trodAll_cons hA
  obtain ⟨rfl, rfl, rfl⟩ := trodAll_nil r0
  obtain rfl : args = #[v0] := by cases args; simp_all
  obtain ⟨rfl, rfl⟩ := trodVars_none hV
  obtain ⟨u0, k0⟩ := h0
  obtain ⟨x0, ⟨A0, c0, l0, hc0, hm0, hn0, t0⟩, f0, -⟩ := opens_P_RSpan_l.2.2.2 _ _ _ _ _ _ _ _ k0
  have g0 := f0 reachBytes (weigh hsz (j := 0) rfl rfl)
  have b0 : x0.length * Meas.bytes _ ≤ reachBytes := g0.1
  unfold reachBytes at b0; unfold maxLen at hm0
  have q0 := slice_of Try.underlying74 (hval 0 _ v0 rfl rfl) l0
  subst q0
  refine (liveMost_any A0 c0 _ x0 W t0 (Nat.le_refl _) (by have h8 : Meas.bytes (Int × Int) = 16 := rfl; rw [h8] at b0; omega) hc0).mono fun e W2 ⟨he, hb⟩ => ?_
  subst he
  exact ⟨_, rfl, post_law hW' rfl rfl rfl Try.underlying4 prog_laidOut (by kernel_rfl) hb⟩

theorem liveMost_holds : Rows.LiveMostSaid :=
  OpenClaim.holds_of_wide 8 Try.f8 rfl rfl rfl rfl rfl rfl rfl ⟨rfl, rfl, rfl, rfl, rfl⟩ rfl rfl rfl rfl rfl (by kernel_rfl) Try.func8 (by kernel_rfl)
    (of_decide_eq_true (by kernel_rfl)) (by unfold Func.isWrapper; first | (rw [if_pos (by decide +kernel)]; kernel_rfl) | (rw [if_neg (by decide +kernel)]; exact ⟨rfl, rfl⟩))
    (fun os started H enc _ => liveMost_lifted os started H enc)
#print axioms liveMost_holds
end Go.Proofs.Ytljdnadejmkaeaa
