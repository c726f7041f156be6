/-
  A heap's check, its objects and what a collection moves are as the document says: any heap. No condition beyond the form's own.
-/
import Derived.Test.YtpkccpegdpodoaaHaul15
import Derived.Test.YtpkccpegdpodoaaOpen
import Derived.Test.YtpkccpegdpodoaaWrap
namespace Go.Proofs.Ytpkccpegdpodoaa
open Go.RowKit Go.ChangeShapes Go.WideShapes Go.Deep

set_option maxRecDepth 100000 in
theorem haulTells_lifted (os : Os) (started : os.Started) (H : Type) (enc : TypeId × Value → H) :
    ReturnsInHanded {} Try.checked os 7 .any (Rows.haulTellsSpec.pre6 enc Try.prog Try.f7 Rows.haulTellsRow.domain false) (Rows.haulTellsSpec.post enc Try.prog Try.f7 false true false false) := by
  refine returnsInHanded_of_change_sized (C := Try.checked) prog_own started (by kernel_rfl) Try.func7
    (ChangeSpec.witness6 (enc := enc) (C := Try.checked) false ⟨#[], #[.agg #[.slice none 0 0, .slice none 0 0]], []⟩ 8 (by kernel_rfl) (by kernel_rfl) (by kernel_rfl) (by kernel_rfl)) ?_
  intro W base args ds gs before hval0 hW _ hsz0 _
  have hsz : (DataW.weightsEach Try.prog (Try.f7.params.toList ++ Rows.haulTellsSpec.plain.varTypes Try.prog) (ds ++ gs)).all (· ≤ reachBytes) = true := hsz0
  clear hsz0
  have hval : ∀ (j : Nat) t v, Try.f7.params[j]? = some t → args[j]? = some v → Value.okWide Try.prog W .any base t v := hval0
  have hW' := hW
  obtain ⟨p, q, hA0, hV, rfl, -, -⟩ := hW
  have hA : DataW.TrodAll enc Try.prog W 0 (fun _ => true) true Try.f7.params.toList args.toList ds p := hA0
  rw [Try.params7] at hA hval hsz
  obtain ⟨v0, vs0, d0, ds0, p0, q0, hargs, rfl, rfl, h0, r0⟩ := trodAll_cons hA
  obtain ⟨rfl, rfl, rfl⟩ := trodAll_nil r0
  obtain rfl : args = #[v0] := by cases args; simp_all
  obtain ⟨rfl, rfl⟩ := trodVars_none hV
  obtain ⟨u0, k0⟩ := h0
  obtain ⟨x0, ⟨c00, c01, l0, ⟨A00, n00, m00, hc00, hm00, -, t00⟩, ⟨A01, n01, m01, hc01, hm01, -, t01⟩⟩, f0, -⟩ := opens_Hp.2.2.2 _ _ _ _ _ _ _ _ k0
  injection m00 with m00; subst m00
  injection m01 with m01; subst m01
  unfold maxLen at hm00 hm01
  have q0 := agg_of Try.underlying70 (hval 0 _ v0 rfl rfl) l0
  subst q0
  refine (haulTells_any _ n00 n01 A00 A01 x0.words x0.roots W t00 t01 (Nat.le_refl _) (by omega)).mono fun e W2 ⟨he, hb⟩ => ?_
  subst he
  exact ⟨_, rfl, post_law hW' rfl rfl rfl Try.underlying4 prog_laidOut (by kernel_rfl) hb⟩

theorem haulTells_holds : Rows.HaulTellsSaid :=
  OpenClaim.holds_of_wide 7 Try.f7 rfl rfl rfl rfl rfl rfl rfl ⟨rfl, rfl, rfl, rfl, rfl⟩ rfl rfl rfl rfl rfl (by kernel_rfl) Try.func7 (by kernel_rfl)
    (of_decide_eq_true (by kernel_rfl)) (by unfold Func.isWrapper; first | (rw [if_pos (by decide +kernel)]; kernel_rfl) | (rw [if_neg (by decide +kernel)]; exact ⟨rfl, rfl⟩))
    (fun os started H enc _ => haulTells_lifted os started H enc)
#print axioms haulTells_holds
end Go.Proofs.Ytpkccpegdpodoaa
