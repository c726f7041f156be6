/-
  leave.Cells answers as the document says: any cells, any exit, any values, where what is read is of bulk at most 1048576. (Without the bound a make's list of ints may be so long that the list of its values passes what append bears.)
-/
import Derived.Test.YtljdnadejmkaeaaCellsLaw
import Derived.Test.YtljdnadejmkaeaaOpen
import Derived.Test.YtljdnadejmkaeaaWrap
import Derived.Test.YtljdnadejmkaeaaBulk
namespace Go.Proofs.Ytljdnadejmkaeaa
open Go.RowKit Go.ChangeShapes Go.WideShapes Go.Deep

theorem blk_ce : ∀ x : Ce, 1 ≤ Meas.blk x := fun x => by show 1 ≤ 1 + 1 + 1 + Meas.blk x.vals + Meas.blk x.frames; omega
theorem blk_mk : ∀ x : Mk, 1 ≤ Meas.blk x := fun x => by show 1 ≤ 1 + 1 + 1 + 1 + Meas.blk x.vals; omega
theorem blk_fr : ∀ x : Fr, 1 ≤ Meas.blk x := fun x => by show 1 ≤ 1 + 1 + 1 + 1 + 1 + 3 + Meas.blk x.regs + Meas.blk x.tries; omega

theorem cellsFit_of {l : List Ce} (h : Meas.blk l ≤ 1048576) : CellsFit l := by
  rw [blk_list] at h
  refine ⟨by have := blk_len blk_ce l; omega, fun x hx => ?_⟩
  have h1 : 1 + 1 + 1 + Meas.blk x.vals + Meas.blk x.frames ≤ blkSum l := blk_mem hx
  rw [blk_list, blk_list] at h1
  refine ⟨by have := blk_len blk_pair x.vals; omega, by have := blk_len blk_fr x.frames; omega, fun f hf => ?_⟩
  have h2 : 1 + 1 + 1 + 1 + 1 + 3 + Meas.blk f.regs + Meas.blk f.tries ≤ blkSum x.frames := blk_mem hf
  rw [blk_list, blk_list] at h2
  exact ⟨by have := blk_len blk_pair f.regs; omega, by have := blk_len blk_pair f.tries; omega⟩

set_option maxRecDepth 100000 in
theorem leaveCells_contract (H : Type) (enc : TypeId × Value → H) (W : World) (base : Nat) (args : Array Value) (ds gs : List (DataW H)) (before : List MemPlace)
    (hval0 : ∀ (j : Nat) t v, Try.f4.params[j]? = some t → args[j]? = some v → Value.okWide Try.prog W .any base t v)
    (hW : DataW.Whole enc Try.prog Try.f4.params.toList Rows.leaveCellsSpec.vars false W args.toList ds gs before) (hk : Rows.uptoSmall H (ds ++ gs) = true) :
    Calls Try.prog 4 args W fun e W' => ∃ v, e = .returned v ∧ Rows.leaveCellsSpec.post enc Try.prog Try.f4 false true false false W args v W' := by
  have hval : ∀ (j : Nat) t v, Try.f4.params[j]? = some t → args[j]? = some v → Value.okWide Try.prog W .any base t v := hval0
  have hW' := hW
  obtain ⟨p, q, hA0, hV, rfl, -, -⟩ := hW
  have hA : DataW.TrodAll enc Try.prog W 0 (fun _ => true) true Try.f4.params.toList args.toList ds p := hA0
  rw [Try.params4] at hA hval
  obtain ⟨v0, vs0, d0, ds0, p0, q0, hargs, rfl, rfl, h0, r0⟩ := trodAll_cons hA
  obtain ⟨v1, vs1, d1, ds1, p1, q1, rfl, rfl, rfl, h1, r1⟩ := trodAll_cons r0
  obtain ⟨v2, vs2, d2, ds2, p2, q2, rfl, rfl, rfl, h2, r2⟩ := trodAll_cons r1
  obtain ⟨rfl, rfl, rfl⟩ := trodAll_nil r2
  obtain rfl : args = #[v0, v1, v2] := by cases args; simp_all
  obtain ⟨rfl, rfl⟩ := trodVars_none hV
  obtain ⟨u0, k0⟩ := h0
  obtain ⟨u1, k1⟩ := h1
  obtain ⟨u2, k2⟩ := h2
  obtain ⟨x0, e0, -, b0⟩ := opens_Ce_l.2.2.2 _ _ _ _ _ _ _ _ k0
  obtain ⟨x1, e1, -, b1⟩ := opens_Ex.2.2.2 _ _ _ _ _ _ _ _ k1
  obtain ⟨x2, e2, -, b2⟩ := opens_P_Val_l.2.2.2 _ _ _ _ _ _ _ _ k2
  have b0 := bulk_of hk (by simp) b0
  have b1 := bulk_of hk (by simp) b1
  have b2 := bulk_of hk (by simp) b2
  obtain ⟨A00, n00, m00, -, -, -, t00⟩ := e0
  obtain ⟨c10, c11, l1, i10, i11, ⟨A10, n10, m10, -, -, -, t10⟩, ⟨A11, n11, m11, -, -, -, t11⟩⟩ := e1
  injection m10 with m10; subst m10
  injection m11 with m11; subst m11
  obtain ⟨A20, n20, m20, -, -, -, t20⟩ := e2
  have q0 := slice_of Try.underlying46 (hval 0 _ v0 rfl rfl) m00
  have q1 := agg_of Try.underlying31 (hval 1 _ v1 rfl rfl) l1
  have q2 := slice_of Try.underlying24 (hval 2 _ v2 rfl rfl) m20
  subst q0 q1 q2
  have b1' : 1 + 1 + 1 + Meas.blk x1.sets + Meas.blk x1.makes ≤ 1048576 := b1
  rw [blk_list, blk_list] at b1'
  rw [blk_list] at b2
  have l1 := blk_len blk_mk x1.makes
  have l2 := blk_len blk_pair x2
  refine (lawLeaveCells_any x1.at_ x1.steps A00 A10 A11 A20 n00 x1.sets.length n10 n11 n20 x0 x1.makes x2 W t00 t11 t20 (cellsFit_of b0) (by omega) (by omega) (fun m hm => ?_)).mono fun e W' ⟨he, hb⟩ => ?_
  · have h3 : 1 + 1 + 1 + 1 + Meas.blk m.vals ≤ blkSum x1.makes := blk_mem hm
    rw [blk_list] at h3
    have := blk_len blk_int m.vals
    omega
  subst he
  exact ⟨_, rfl, post_law hW' rfl rfl rfl Try.underlying4 prog_laidOut (by kernel_rfl) hb⟩

set_option maxRecDepth 100000 in
theorem leaveCells_lifted (os : Os) (started : os.Started) (H : Type) (enc : TypeId × Value → H) (F : Stop.Interp) :
    ReturnsInHanded {} Try.checked os 4 .any ((Rows.OpenSpec.upto Rows.leaveCellsSpec).pre6 enc Try.prog Try.f4 Rows.leaveCellsUptoRow.domain false) (((Rows.OpenSpec.upto Rows.leaveCellsSpec).at F).post enc Try.prog Try.f4 false true false false) := by
  refine returnsInHanded_of_cond (C := Try.checked) (s := Rows.OpenSpec.upto Rows.leaveCellsSpec) (k := Rows.uptoSmall) rfl prog_own started (by kernel_rfl) Try.func4
    (OpenSpec.witness (enc := enc) (C := Try.checked) (s := Rows.OpenSpec.upto Rows.leaveCellsSpec) (k := Rows.uptoSmall) rfl false ⟨#[], #[.slice none 0 0, .agg #[.int .i64 0, .int .i64 0, .slice none 0 0, .slice none 0 0], .slice none 0 0], []⟩ 8 (by kernel_rfl) (by kernel_rfl) (by kernel_rfl)
      (x := ([.nil, .agg [.lit (.int .i64 0), .lit (.int .i64 0), .nil, .nil], .nil], [], [])) (by kernel_rfl) rfl (by kernel_rfl)) ?_
  intro W base args ds gs before hval hW _ hk _
  exact leaveCells_contract H enc W base args ds gs before hval hW hk

theorem leaveCells_holds : Rows.LeaveCellsUptoSaid :=
  OpenClaim.holds_of_cond 4 Try.f4 rfl rfl rfl rfl rfl rfl rfl ⟨rfl, rfl, rfl, rfl, rfl⟩ rfl rfl rfl rfl rfl (by kernel_rfl) Try.func4 (by kernel_rfl)
    (of_decide_eq_true (by kernel_rfl)) (by unfold Func.isWrapper; first | (rw [if_pos (by decide +kernel)]; kernel_rfl) | (rw [if_neg (by decide +kernel)]; exact ⟨rfl, rfl⟩))
    (fun os started H enc _ F => leaveCells_lifted os started H enc F)
#print axioms leaveCells_holds
end Go.Proofs.Ytljdnadejmkaeaa
