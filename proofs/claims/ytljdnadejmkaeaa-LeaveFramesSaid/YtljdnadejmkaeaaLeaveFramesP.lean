/-
  leave.Frame answers as the document says, whatever is handed in: any frame, any exit, any values. No condition beyond the form's own.
-/
import Derived.Test.YtljdnadejmkaeaaLeaveLaw2
import Derived.Test.YtljdnadejmkaeaaOpen
import Derived.Test.YtljdnadejmkaeaaWrap
namespace Go.Proofs.Ytljdnadejmkaeaa
open Go.RowKit Go.ChangeShapes Go.WideShapes Go.Deep

set_option maxRecDepth 100000 in
theorem leaveFrames_lifted (os : Os) (started : os.Started) (H : Type) (enc : TypeId × Value → H) :
    ReturnsInHanded {} Try.checked os 3 .any (Rows.leaveFramesSpec.pre6 enc Try.prog Try.f3 Rows.leaveFramesRow.domain false) (Rows.leaveFramesSpec.post enc Try.prog Try.f3 false true false false) := by
  refine returnsInHanded_of_change_sized (C := Try.checked) prog_own started (by kernel_rfl) Try.func3
    (ChangeSpec.witness6 (enc := enc) (C := Try.checked) false ⟨#[], #[.agg #[.int .i64 0, .int .i64 0, .int .i64 0, .int .i64 0, .int .i64 0, .int .i64 0, .slice none 0 0, .slice none 0 0], .agg #[.int .i64 0, .int .i64 0, .slice none 0 0, .slice none 0 0], .slice none 0 0], []⟩ 8 (by kernel_rfl) (by kernel_rfl) (by kernel_rfl) (by kernel_rfl)) ?_
  intro W base args ds gs before hval0 hW _ hsz0 _
  have hsz : (DataW.weightsEach Try.prog (Try.f3.params.toList ++ Rows.leaveFramesSpec.plain.varTypes Try.prog) (ds ++ gs)).all (· ≤ reachBytes) = true := hsz0
  clear hsz0
  have hval : ∀ (j : Nat) t v, Try.f3.params[j]? = some t → args[j]? = some v → Value.okWide Try.prog W .any base t v := hval0
  have hW' := hW
  obtain ⟨p, q, hA0, hV, rfl, -, -⟩ := hW
  have hA : DataW.TrodAll enc Try.prog W 0 (fun _ => true) true Try.f3.params.toList args.toList ds p := hA0
  rw [Try.params3] at hA hval hsz
  obtain ⟨v0, vs0, d0, ds0, p0, q0, hargs, rfl, rfl, h0, r0⟩ := trodAll_cons hA
  obtain ⟨v1, vs1, d1, ds1, p1, q1, rfl, rfl, rfl, h1, r1⟩ := trodAll_cons r0
  obtain ⟨v2, vs2, d2, ds2, p2, q2, rfl, rfl, rfl, h2, r2⟩ := trodAll_cons r1
  obtain ⟨rfl, rfl, rfl⟩ := trodAll_nil r2
  obtain rfl : args = #[v0, v1, v2] := by cases args; simp_all
  obtain ⟨rfl, rfl⟩ := trodVars_none hV
  obtain ⟨u0, k0⟩ := h0
  obtain ⟨u1, k1⟩ := h1
  obtain ⟨u2, k2⟩ := h2
  obtain ⟨x0, e0, f0, -⟩ := opens_Fr.2.2.2 _ _ _ _ _ _ _ _ k0
  obtain ⟨x1, e1, f1, -⟩ := opens_Ex.2.2.2 _ _ _ _ _ _ _ _ k1
  obtain ⟨x2, e2, f2, -⟩ := opens_P_Val_l.2.2.2 _ _ _ _ _ _ _ _ k2
  have g0 := f0 reachBytes (weigh hsz (j := 0) rfl rfl)
  have g1 := f1 reachBytes (weigh hsz (j := 1) rfl rfl)
  have g2 := f2 reachBytes (weigh hsz (j := 2) rfl rfl)
  obtain ⟨c00, c01, l0, i00, i01, i02, i03, i04, i05, ⟨A00, n00, m00, -, -, -, t00⟩, ⟨A01, n01, m01, -, -, -, t01⟩⟩ := e0
  injection m00 with m00; subst m00
  injection m01 with m01; subst m01
  obtain ⟨c10, c11, l1, i10, i11, ⟨A10, n10, m10, -, -, -, t10⟩, ⟨A11, n11, m11, -, -, -, t11⟩⟩ := e1
  injection m10 with m10; subst m10
  injection m11 with m11; subst m11
  obtain ⟨A20, n20, m20, -, -, -, t20⟩ := e2
  have q0 := agg_of Try.underlying27 (hval 0 _ v0 rfl rfl) l0
  have q1 := agg_of Try.underlying31 (hval 1 _ v1 rfl rfl) l1
  have q2 := slice_of Try.underlying24 (hval 2 _ v2 rfl rfl) m20
  subst q0 q1 q2
  have b0 : x0.regs.length * 16 ≤ reachBytes := g0.1.1
  have b1 : x0.tries.length * 16 ≤ reachBytes := g0.2.1
  have b2 : x1.sets.length * 16 ≤ reachBytes := g1.1.1
  have b3 : x2.length * 16 ≤ reachBytes := g2.1
  unfold reachBytes at b0 b1 b2 b3
  refine (leaveFrames_any x0.fn x0.at_ x0.fto x0.gen x0.self.1 x0.self.2 x1.at_ x1.steps A00 A01 A10 A11 A20 n00 n01 n10 x1.makes.length n11 n20 x0.regs x0.tries x1.sets x2 W t00 t01 t10 t20 (by omega) (by omega) (by omega) (by omega) t00.ok_ t01.ok_).mono fun e W' ⟨he, hb⟩ => ?_
  subst he
  exact ⟨_, rfl, post_law hW' rfl rfl rfl Try.underlying4 prog_laidOut (by kernel_rfl) hb⟩

theorem leaveFrames_holds : Rows.LeaveFramesSaid :=
  OpenClaim.holds_of_wide 3 Try.f3 rfl rfl rfl rfl rfl rfl rfl ⟨rfl, rfl, rfl, rfl, rfl⟩ rfl rfl rfl rfl rfl (by kernel_rfl) Try.func3 (by kernel_rfl)
    (of_decide_eq_true (by kernel_rfl)) (by unfold Func.isWrapper; first | (rw [if_pos (by decide +kernel)]; kernel_rfl) | (rw [if_neg (by decide +kernel)]; exact ⟨rfl, rfl⟩))
    (fun os started H enc _ => leaveFrames_lifted os started H enc)
#print axioms leaveFrames_holds
end Go.Proofs.Ytljdnadejmkaeaa
