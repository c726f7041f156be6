/-
  Boxes of values and values of boxes are as the document says: any value, any word. No condition beyond the form's own.
-/
import Derived.Test.YtpkccpegdpodoaaNanLaw
import Derived.Test.YtpkccpegdpodoaaOpenV
import Derived.Test.YtpkccpegdpodoaaWrap
namespace Go.Proofs.Ytpkccpegdpodoaa
open Go.RowKit Go.ChangeShapes Go.WideShapes Go.Deep

theorem opens_U64 : Opens U64 Try.prog 24 := opens_u64 Try.underlying24 (by kernel_rfl) (by kernel_rfl)

set_option maxRecDepth 100000 in
theorem nanboxTells_lifted (os : Os) (started : os.Started) (H : Type) (enc : TypeId × Value → H) :
    ReturnsInHanded {} Try.checked os 3 .any (Rows.nanboxTellsSpec.pre6 enc Try.prog Try.f3 Rows.nanboxTellsRow.domain false) (Rows.nanboxTellsSpec.post enc Try.prog Try.f3 false true false false) := by
  refine returnsInHanded_of_change_sized (C := Try.checked) prog_own started (by kernel_rfl) Try.func3
    (ChangeSpec.witness6 (enc := enc) (C := Try.checked) false ⟨#[], #[.agg #[.int .i64 0, .int .i64 0], .int .u64 0], []⟩ 8 (by kernel_rfl) (by kernel_rfl) (by kernel_rfl) (by kernel_rfl)) ?_
  intro W base args ds gs before hval0 hW _ hsz0 _
  have hval : ∀ (j : Nat) t v, Try.f3.params[j]? = some t → args[j]? = some v → Value.okWide Try.prog W .any base t v := hval0
  have hW' := hW
  obtain ⟨p, q, hA0, hV, rfl, -, -⟩ := hW
  have hA : DataW.TrodAll enc Try.prog W 0 (fun _ => true) true Try.f3.params.toList args.toList ds p := hA0
  rw [Try.params3] at hA hval
  obtain ⟨v0, vs0, d0, ds0, p0, q0, hargs, rfl, rfl, h0, r0⟩ := trodAll_cons hA
  obtain ⟨v1, vs1, d1, ds1, p1, q1, rfl, rfl, rfl, h1, r1⟩ := trodAll_cons r0
  obtain ⟨rfl, rfl, rfl⟩ := trodAll_nil r1
  obtain rfl : args = #[v0, v1] := by cases args; simp_all
  obtain ⟨rfl, rfl⟩ := trodVars_none hV
  obtain ⟨u0, k0⟩ := h0
  obtain ⟨u1, k1⟩ := h1
  obtain ⟨x0, ⟨l0, i00, i01⟩, -, -⟩ := opens_P_Val.2.2.2 _ _ _ _ _ _ _ _ k0
  obtain ⟨x1, ⟨l1, j0, j1⟩, -, -⟩ := opens_U64.2.2.2 _ _ _ _ _ _ _ _ k1
  have q0 := agg_of Try.underlying23 (hval 0 _ v0 rfl rfl) l0
  have q1 : v1 = .int .u64 x1.val := by
    obtain ⟨m, rfl⟩ := okWide_int Try.underlying24 (hval 1 _ v1 rfl rfl)
    simpa [Value.cells, Flat.cells] using l1
  subst q0 q1
  refine (nanboxTells_any x0.1 x0.2 x1.val W i00 i01 ⟨j0, j1⟩).mono fun e W' ⟨he, hb⟩ => ?_
  subst he
  exact ⟨_, rfl, post_law hW' rfl rfl rfl Try.underlying4 prog_laidOut (by kernel_rfl) hb⟩

theorem nanboxTells_holds : Rows.NanboxTellsSaid :=
  OpenClaim.holds_of_wide 3 Try.f3 rfl rfl rfl rfl rfl rfl rfl ⟨rfl, rfl, rfl, rfl, rfl⟩ rfl rfl rfl rfl rfl (by kernel_rfl) Try.func3 (by kernel_rfl)
    (of_decide_eq_true (by kernel_rfl)) (by unfold Func.isWrapper; first | (rw [if_pos (by decide +kernel)]; kernel_rfl) | (rw [if_neg (by decide +kernel)]; exact ⟨rfl, rfl⟩))
    (fun os started H enc _ => nanboxTells_lifted os started H enc)
#print axioms nanboxTells_holds
end Go.Proofs.Ytpkccpegdpodoaa
