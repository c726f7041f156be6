/-
  scan.Clash answers as the document says: any spans, any places. No condition beyond the form's own.
-/
import Derived.Test.YtljdnadejmkaeaaScan9
import Derived.Test.YtljdnadejmkaeaaOpen
import Derived.Test.YtljdnadejmkaeaaWrap
namespace Go.Proofs.Ytljdnadejmkaeaa
open Go.RowKit Go.ChangeShapes Go.WideShapes Go.Deep

set_option maxRecDepth 100000 in
theorem scanClash_lifted (os : Os) (started : os.Started) (H : Type) (enc : TypeId × Value → H) :
    ReturnsInHanded {} Try.checked os 10 .any (Rows.scanClashSpec.pre6 enc Try.prog Try.f10 Rows.scanClashRow.domain false) (Rows.scanClashSpec.post enc Try.prog Try.f10 false true false false) := by
  refine returnsInHanded_of_change_sized (C := Try.checked) prog_own started (by kernel_rfl) Try.func10
    (ChangeSpec.witness6 (enc := enc) (C := Try.checked) false ⟨#[], #[.slice none 0 0, .slice none 0 0], []⟩ 8 (by kernel_rfl) (by kernel_rfl) (by kernel_rfl) (by kernel_rfl)) ?_
  intro W base args ds gs before hval0 hW _ hsz0 _
  have hsz : (DataW.weightsEach Try.prog (Try.f10.params.toList ++ Rows.scanClashSpec.plain.varTypes Try.prog) (ds ++ gs)).all (· ≤ reachBytes) = true := hsz0
  clear hsz0
  have hval : ∀ (j : Nat) t v, Try.f10.params[j]? = some t → args[j]? = some v → Value.okWide Try.prog W .any base t v := hval0
  have hW' := hW
  obtain ⟨p, q, hA0, hV, rfl, -, -⟩ := hW
  have hA : DataW.TrodAll enc Try.prog W 0 (fun _ => true) true Try.f10.params.toList args.toList ds p := hA0
  rw [Try.params10] at hA hval hsz
  obtain ⟨v0, vs0, d0, ds0, p0, q0, hargs, rfl, rfl, h0, r0⟩ := trodAll_cons hA
  obtain ⟨v1, vs1, d1, ds1, p1, q1, rfl, rfl, rfl, h1, r1⟩ := trodAll_cons r0
  obtain ⟨rfl, rfl, rfl⟩ := trodAll_nil r1
  obtain rfl : args = #[v0, v1] := by cases args; simp_all
  obtain ⟨rfl, rfl⟩ := trodVars_none hV
  obtain ⟨u0, k0⟩ := h0
  obtain ⟨u1, k1⟩ := h1
  obtain ⟨x0, ⟨A0, c0, l0, hc0, hm0, hn0, t0⟩, f0, -⟩ := opens_P_RSpan_l.2.2.2 _ _ _ _ _ _ _ _ k0
  have g0 := f0 reachBytes (weigh hsz (j := 0) rfl rfl)
  have b0 : x0.length * Meas.bytes _ ≤ reachBytes := g0.1
  unfold reachBytes at b0; unfold maxLen at hm0
  have q0 := slice_of Try.underlying74 (hval 0 _ v0 rfl rfl) l0
  obtain ⟨x1, ⟨A1, c1, l1, hc1, hm1, hn1, t1⟩, f1, -⟩ := opens_P_RPlace_l.2.2.2 _ _ _ _ _ _ _ _ k1
  have g1 := f1 reachBytes (weigh hsz (j := 1) rfl rfl)
  have b1 : x1.length * Meas.bytes _ ≤ reachBytes := g1.1
  unfold reachBytes at b1; unfold maxLen at hm1
  have q1 := slice_of Try.underlying83 (hval 1 _ v1 rfl rfl) l1
  subst q0 q1
  refine (scanClash_any _ c0 c1 A0 A1 x0 x1 W t0 t1 (Nat.le_refl _) (by have h8 : Meas.bytes (Int × Int) = 16 := rfl; rw [h8] at b0; omega) (by have h8 : Meas.bytes (Int × Int) = 16 := rfl; rw [h8] at b1; omega) hc0).mono fun e W2 ⟨he, hb⟩ => ?_
  subst he
  exact ⟨_, rfl, post_law hW' rfl rfl rfl Try.underlying4 prog_laidOut (by kernel_rfl) hb⟩

theorem scanClash_holds : Rows.ScanClashSaid :=
  OpenClaim.holds_of_wide 10 Try.f10 rfl rfl rfl rfl rfl rfl rfl ⟨rfl, rfl, rfl, rfl, rfl⟩ rfl rfl rfl rfl rfl (by kernel_rfl) Try.func10 (by kernel_rfl)
    (of_decide_eq_true (by kernel_rfl)) (by unfold Func.isWrapper; first | (rw [if_pos (by decide +kernel)]; kernel_rfl) | (rw [if_neg (by decide +kernel)]; exact ⟨rfl, rfl⟩))
    (fun os started H enc _ => scanClash_lifted os started H enc)
#print axioms scanClash_holds
end Go.Proofs.Ytljdnadejmkaeaa
