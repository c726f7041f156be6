/-
  order.Check answers the same each time; order.Encode gives what Check says, or the document's bytes: any code. No condition beyond the form's own.
-/
import Derived.Test.YtljdnadejmkaeaaRF46
import Derived.Test.YtljdnadejmkaeaaRF48
import Derived.Test.YtljdnadejmkaeaaRF49
namespace Go.Proofs.Ytljdnadejmkaeaa
open Go.RowKit Go.ChangeShapes Go.WideShapes Go.Deep

theorem exit_shape {w : World} {B : Nat} {cs : List Value} {x : RE} (h : Enc.rd w B cs x) : ∃ (SA : Option Addr) (sc : Nat) (MA : Option Addr) (mc : Nat), cs = (⟨x, SA, sc, MA, mc⟩ : ExA).cs := by
  obtain ⟨c6, c7, rfl, h1, h2, ⟨A6, d6, e6, -⟩, ⟨A7, d7, e7, -⟩⟩ := h
  injection e6 with e6; injection e7 with e7; subst e6 e7
  exact ⟨A6, d6, A7, d7, rfl⟩

set_option maxRecDepth 100000 in
theorem orderBytes_lifted (os : Os) (started : os.Started) (H : Type) (enc : TypeId × Value → H) :
    ReturnsInHanded {} Try.checked os 11 .any (Rows.orderBytesSpec.pre6 enc Try.prog Try.f11 Rows.orderBytesRow.domain false) (Rows.orderBytesSpec.post enc Try.prog Try.f11 false true false false) := by
  refine returnsInHanded_of_change_sized (C := Try.checked) prog_own started (by kernel_rfl) Try.func11
    (ChangeSpec.witness6 (enc := enc) (C := Try.checked) false ⟨#[], #[.agg #[.int .i64 0, .int .i64 0, .int .i64 0, .int .i64 0, .slice none 0 0, .slice none 0 0, .int .i64 0, .int .i64 0, .slice none 0 0, .slice none 0 0, .int .i64 0, .int .i64 0, .slice none 0 0, .slice none 0 0]], []⟩ 8 (by kernel_rfl) (by kernel_rfl) (by kernel_rfl) (by kernel_rfl)) ?_
  intro W base args ds gs before hval0 hW _ hsz0 _
  have hsz : (DataW.weightsEach Try.prog (Try.f11.params.toList ++ Rows.orderBytesSpec.plain.varTypes Try.prog) (ds ++ gs)).all (· ≤ reachBytes) = true := hsz0
  clear hsz0
  have hval : ∀ (j : Nat) t v, Try.f11.params[j]? = some t → args[j]? = some v → Value.okWide Try.prog W .any base t v := hval0
  have hW' := hW
  obtain ⟨p, q, hA0, hV, rfl, -, -⟩ := hW
  have hA : DataW.TrodAll enc Try.prog W 0 (fun _ => true) true Try.f11.params.toList args.toList ds p := hA0
  rw [Try.params11] at hA hval hsz
  obtain ⟨v0, vs0, d0, ds0, p0, q0, hargs, rfl, rfl, h0, r0⟩ := trodAll_cons hA
  obtain ⟨rfl, rfl, rfl⟩ := trodAll_nil r0
  obtain rfl : args = #[v0] := by cases args; simp_all
  obtain ⟨rfl, rfl⟩ := trodVars_none hV
  obtain ⟨u0, k0⟩ := h0
  obtain ⟨x0, ⟨c4, c5, ct, cb, l0, i0, i1, i2, i3, ⟨A4, n4, m4, hc4, hm4, -, t4⟩, ⟨A5, n5, m5, hc5, hm5, -, t5⟩, ht, hb⟩, f0, -⟩ := opens_RC.2.2.2 _ _ _ _ _ _ _ _ k0
  injection m4 with m4; subst m4
  injection m5 with m5; subst m5
  have g0 := f0 reachBytes (weigh hsz (j := 0) rfl rfl)
  have b5 : x0.exits.length * Meas.bytes RE ≤ reachBytes := g0.2.1.1
  have h64 : Meas.bytes RE = 64 := rfl
  rw [h64] at b5
  unfold reachBytes at b5; unfold maxLen at hm4 hm5
  obtain ⟨TS, tsc, TM, tmc, rfl⟩ := exit_shape ht
  obtain ⟨BS, bsc, BM, bmc, rfl⟩ := exit_shape hb
  have q0 := agg_of Try.underlying104 (hval 0 _ v0 rfl rfl) l0
  subst q0
  refine (orderBytes_any W.heap.size n4 n5 tsc tmc bsc bmc A4 A5 TS TM BS BM x0 W ⟨t4, t5, ht, hb⟩ (Nat.le_refl _) (by omega) (by omega) ⟨i0, i1, i2, i3⟩).mono fun e W2 ⟨he, hb⟩ => ?_
  subst he
  exact ⟨_, rfl, post_law hW' rfl rfl rfl Try.underlying4 prog_laidOut (by kernel_rfl) hb⟩

theorem orderBytes_holds : Rows.OrderBytesSaid :=
  OpenClaim.holds_of_wide 11 Try.f11 rfl rfl rfl rfl rfl rfl rfl ⟨rfl, rfl, rfl, rfl, rfl⟩ rfl rfl rfl rfl rfl (by kernel_rfl) Try.func11 (by kernel_rfl)
    (of_decide_eq_true (by kernel_rfl)) (by unfold Func.isWrapper; first | (rw [if_pos (by decide +kernel)]; kernel_rfl) | (rw [if_neg (by decide +kernel)]; exact ⟨rfl, rfl⟩))
    (fun os started H enc _ => orderBytes_lifted os started H enc)
#print axioms orderBytes_holds
end Go.Proofs.Ytljdnadejmkaeaa
