/-
  Needed things, live things and kept pairs are as the document says: any graph, any pairs. No condition beyond the form's own.
-/
import Derived.Test.YtpkccpegdpodoaaWeak9
import Derived.Test.YtpkccpegdpodoaaOpen
import Derived.Test.YtpkccpegdpodoaaWrap
namespace Go.Proofs.Ytpkccpegdpodoaa
open Go.RowKit Go.ChangeShapes Go.WideShapes Go.Deep

set_option maxRecDepth 100000 in
theorem weakTells_lifted (os : Os) (started : os.Started) (H : Type) (enc : TypeId × Value → H) :
    ReturnsInHanded {} Try.checked os 5 .any (Rows.weakTellsSpec.pre6 enc Try.prog Try.f5 Rows.weakTellsRow.domain false) (Rows.weakTellsSpec.post enc Try.prog Try.f5 false true false false) := by
  refine returnsInHanded_of_change_sized (C := Try.checked) prog_own started (by kernel_rfl) Try.func5
    (ChangeSpec.witness6 (enc := enc) (C := Try.checked) false ⟨#[], #[.agg #[.slice none 0 0, .slice none 0 0], .slice none 0 0], []⟩ 8 (by kernel_rfl) (by kernel_rfl) (by kernel_rfl) (by kernel_rfl)) ?_
  intro W base args ds gs before hval0 hW _ hsz0 _
  have hsz : (DataW.weightsEach Try.prog (Try.f5.params.toList ++ Rows.weakTellsSpec.plain.varTypes Try.prog) (ds ++ gs)).all (· ≤ reachBytes) = true := hsz0
  clear hsz0
  have hval : ∀ (j : Nat) t v, Try.f5.params[j]? = some t → args[j]? = some v → Value.okWide Try.prog W .any base t v := hval0
  have hW' := hW
  obtain ⟨p, q, hA0, hV, rfl, -, -⟩ := hW
  have hA : DataW.TrodAll enc Try.prog W 0 (fun _ => true) true Try.f5.params.toList args.toList ds p := hA0
  rw [Try.params5] at hA hval hsz
  obtain ⟨v0, vs0, d0, ds0, p0, q0, hargs, rfl, rfl, h0, r0⟩ := trodAll_cons hA
  obtain ⟨v1, vs1, d1, ds1, p1, q1, rfl, rfl, rfl, h1, r1⟩ := trodAll_cons r0
  obtain ⟨rfl, rfl, rfl⟩ := trodAll_nil r1
  obtain rfl : args = #[v0, v1] := by cases args; simp_all
  obtain ⟨rfl, rfl⟩ := trodVars_none hV
  obtain ⟨u0, k0⟩ := h0
  obtain ⟨u1, k1⟩ := h1
  obtain ⟨x0, ⟨c00, c01, l0, ⟨A00, n00, m00, hc00, hm00, -, t00⟩, ⟨A01, n01, m01, hc01, hm01, -, t01⟩⟩, f0, -⟩ := opens_Gr.2.2.2 _ _ _ _ _ _ _ _ k0
  injection m00 with m00; subst m00
  injection m01 with m01; subst m01
  unfold maxLen at hm00 hm01
  have q0 := agg_of Try.underlying49 (hval 0 _ v0 rfl rfl) l0
  obtain ⟨x1, ⟨A1, c1, l1, hc1, hm1, hn1, t1⟩, f1, -⟩ := opens_P_RPair_l.2.2.2 _ _ _ _ _ _ _ _ k1
  have g1 := f1 reachBytes (weigh hsz (j := 1) rfl rfl)
  have b1 : x1.length * Meas.bytes _ ≤ reachBytes := g1.1
  unfold reachBytes at b1; unfold maxLen at hm1
  have q1 := slice_of Try.underlying50 (hval 1 _ v1 rfl rfl) l1
  subst q0 q1
  refine (weakTells_any _ n00 n01 c1 A00 A01 A1 x0.has x0.roots x1 W t00 t01 t1 (Nat.le_refl _) (by omega) (by omega) (by omega) ⟨hc01, by simp only [maxLen]; omega⟩).mono fun e W2 ⟨he, hb⟩ => ?_
  subst he
  exact ⟨_, rfl, post_law hW' rfl rfl rfl Try.underlying4 prog_laidOut (by kernel_rfl) hb⟩

theorem weakTells_holds : Rows.WeakTellsSaid :=
  OpenClaim.holds_of_wide 5 Try.f5 rfl rfl rfl rfl rfl rfl rfl ⟨rfl, rfl, rfl, rfl, rfl⟩ rfl rfl rfl rfl rfl (by kernel_rfl) Try.func5 (by kernel_rfl)
    (of_decide_eq_true (by kernel_rfl)) (by unfold Func.isWrapper; first | (rw [if_pos (by decide +kernel)]; kernel_rfl) | (rw [if_neg (by decide +kernel)]; exact ⟨rfl, rfl⟩))
    (fun os started H enc _ => weakTells_lifted os started H enc)
#print axioms weakTells_holds
end Go.Proofs.Ytpkccpegdpodoaa
