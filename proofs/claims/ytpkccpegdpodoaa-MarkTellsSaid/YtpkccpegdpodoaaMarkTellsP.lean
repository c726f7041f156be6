/-
  A marker, played against the document by any deeds, is as the document says. No condition beyond the form's own.
-/
import Derived.Test.YtpkccpegdpodoaaMkZ
import Derived.Test.YtpkccpegdpodoaaOpen
import Derived.Test.YtpkccpegdpodoaaWrap
namespace Go.Proofs.Ytpkccpegdpodoaa
open Go.RowKit Go.ChangeShapes Go.WideShapes Go.Deep

set_option maxRecDepth 100000 in
theorem markTells_lifted (os : Os) (started : os.Started) (H : Type) (enc : TypeId × Value → H) :
    ReturnsInHanded {} Try.checked os 9 .any (Rows.markTellsSpec.pre6 enc Try.prog Try.f9 Rows.markTellsRow.domain false) (Rows.markTellsSpec.post enc Try.prog Try.f9 false true false false) := by
  refine returnsInHanded_of_change_sized (C := Try.checked) prog_own started (by kernel_rfl) Try.func9
    (ChangeSpec.witness6 (enc := enc) (C := Try.checked) false ⟨#[], #[.int .i64 0, .slice none 0 0], []⟩ 8 (by kernel_rfl) (by kernel_rfl) (by kernel_rfl) (by kernel_rfl)) ?_
  intro W base args ds gs before hval0 hW _ hsz0 _
  have hsz : (DataW.weightsEach Try.prog (Try.f9.params.toList ++ Rows.markTellsSpec.plain.varTypes Try.prog) (ds ++ gs)).all (· ≤ reachBytes) = true := hsz0
  clear hsz0
  have hval : ∀ (j : Nat) t v, Try.f9.params[j]? = some t → args[j]? = some v → Value.okWide Try.prog W .any base t v := hval0
  have hW' := hW
  obtain ⟨p, q, hA0, hV, rfl, -, -⟩ := hW
  have hA : DataW.TrodAll enc Try.prog W 0 (fun _ => true) true Try.f9.params.toList args.toList ds p := hA0
  rw [Try.params9] at hA hval hsz
  obtain ⟨v0, vs0, d0, ds0, p0, q0, hargs, rfl, rfl, h0, r0⟩ := trodAll_cons hA
  obtain ⟨v1, vs1, d1, ds1, p1, q1, rfl, rfl, rfl, h1, r1⟩ := trodAll_cons r0
  obtain ⟨rfl, rfl, rfl⟩ := trodAll_nil r1
  obtain rfl : args = #[v0, v1] := by cases args; simp_all
  obtain ⟨rfl, rfl⟩ := trodVars_none hV
  obtain ⟨u0, k0⟩ := h0
  obtain ⟨u1, k1⟩ := h1
  obtain ⟨x0, ⟨l0, i0⟩, -, -⟩ := opens_Int.2.2.2 _ _ _ _ _ _ _ _ k0
  have q0 : v0 = .int .i64 x0 := by
    obtain ⟨m, rfl⟩ := okWide_int Try.underlying3 (hval 0 _ v0 rfl rfl)
    simpa [Value.cells, Flat.cells] using l0
  obtain ⟨x1, ⟨A1, c1, l1, hc1, hm1, hn1, t1⟩, f1, -⟩ := opens_De_l.2.2.2 _ _ _ _ _ _ _ _ k1
  have g1 := f1 reachBytes (weigh hsz (j := 1) rfl rfl)
  have b1 : x1.length * Meas.bytes _ ≤ reachBytes := g1.1
  unfold reachBytes at b1; unfold maxLen at hm1
  have q1 := slice_of Try.underlying88 (hval 1 _ v1 rfl rfl) l1
  subst q0 q1
  refine (markTells_any A1 c1 _ x1 x0 W t1 (Nat.le_refl _) (by have h8 : Meas.bytes De = 32 := rfl; rw [h8] at b1; omega) hc1).mono fun e W2 ⟨he, hb⟩ => ?_
  subst he
  exact ⟨_, rfl, post_law hW' rfl rfl rfl Try.underlying4 prog_laidOut (by kernel_rfl) hb⟩

theorem markTells_holds : Rows.MarkTellsSaid :=
  OpenClaim.holds_of_wide 9 Try.f9 rfl rfl rfl rfl rfl rfl rfl ⟨rfl, rfl, rfl, rfl, rfl⟩ rfl rfl rfl rfl rfl (by kernel_rfl) Try.func9 (by kernel_rfl)
    (of_decide_eq_true (by kernel_rfl)) (by unfold Func.isWrapper; first | (rw [if_pos (by decide +kernel)]; kernel_rfl) | (rw [if_neg (by decide +kernel)]; exact ⟨rfl, rfl⟩))
    (fun os started H enc _ => markTells_lifted os started H enc)
#print axioms markTells_holds
end Go.Proofs.Ytpkccpegdpodoaa
