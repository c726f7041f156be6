/-
  live.Check and live.Spans answer as the document says: any trace, where what is read is of bulk at most 1048576. (Without the bound many makes of an exit may share one long list of ints, and the list of the exit's values passes what append bears.)
-/
import Derived.Test.YtljdnadejmkaeaaLive23
import Derived.Test.YtljdnadejmkaeaaOpen
import Derived.Test.YtljdnadejmkaeaaWrap
import Derived.Test.YtljdnadejmkaeaaBulk
namespace Go.Proofs.Ytljdnadejmkaeaa
open Go.RowKit Go.ChangeShapes Go.WideShapes Go.Deep

theorem blk_mk_ : ∀ x : Mk, 1 ≤ Meas.blk x := fun x => by show 1 ≤ 1 + 1 + 1 + 1 + Meas.blk x.vals; omega
theorem blk_ti_ : ∀ x : TI, 1 ≤ Meas.blk x := fun x => by show 1 ≤ 1 + 1 + 1 + 1 + 1 + 1 + 1 + 3; omega
theorem blk_ex_ : ∀ x : Ex, 1 ≤ Meas.blk x := fun x => by show 1 ≤ 1 + 1 + 1 + Meas.blk x.sets + Meas.blk x.makes; omega
theorem makes_blk : ∀ l : List Mk, (l.flatMap fun m => m.cell :: m.vals).length ≤ blkSum l
  | [] => Nat.le_refl _
  | m :: l => by
    have h1 := makes_blk l
    have h2 : 1 + 1 + 1 + 1 + Meas.blk m.vals = Meas.blk m := rfl
    have h3 : Meas.blk m.vals = blkSum m.vals + 1 := rfl
    have h4 := blk_len blk_int m.vals
    rw [List.flatMap_cons, List.length_append, List.length_cons]
    show _ ≤ Meas.blk m + blkSum l
    omega
theorem vals_blk (x : Ex) : (Liv.vals x).length ≤ Meas.blk x := by
  have h1 := makes_blk x.makes
  have h2 := blk_len blk_pair x.sets
  have h3 : Meas.blk x = 1 + 1 + 1 + Meas.blk x.sets + Meas.blk x.makes := rfl
  rw [blk_list, blk_list] at h3
  unfold Liv.vals
  rw [List.length_append, List.length_map]
  omega

set_option maxRecDepth 100000 in
theorem liveTells_contract (H : Type) (enc : TypeId × Value → H) (W : World) (base : Nat) (args : Array Value) (ds gs : List (DataW H)) (before : List MemPlace)
    (hval0 : ∀ (j : Nat) t v, Try.f7.params[j]? = some t → args[j]? = some v → Value.okWide Try.prog W .any base t v)
    (hW : DataW.Whole enc Try.prog Try.f7.params.toList Rows.liveTellsSpec.vars false W args.toList ds gs before) (hk : Rows.uptoSmall H (ds ++ gs) = true) :
    Calls Try.prog 7 args W fun e W' => ∃ v, e = .returned v ∧ Rows.liveTellsSpec.post enc Try.prog Try.f7 false true false false W args v W' := by
  have hval : ∀ (j : Nat) t v, Try.f7.params[j]? = some t → args[j]? = some v → Value.okWide Try.prog W .any base t v := hval0
  have hW' := hW
  obtain ⟨p, q, hA0, hV, rfl, -, -⟩ := hW
  have hA : DataW.TrodAll enc Try.prog W 0 (fun _ => true) true Try.f7.params.toList args.toList ds p := hA0
  rw [Try.params7] at hA hval
  obtain ⟨v0, vs0, d0, ds0, p0, q0, hargs, rfl, rfl, h0, r0⟩ := trodAll_cons hA
  obtain ⟨rfl, rfl, rfl⟩ := trodAll_nil r0
  obtain rfl : args = #[v0] := by cases args; simp_all
  obtain ⟨rfl, rfl⟩ := trodVars_none hV
  obtain ⟨u0, k0⟩ := h0
  obtain ⟨x0, e0, -, b0⟩ := opens_TT.2.2.2 _ _ _ _ _ _ _ _ k0
  have b0 := bulk_of hk (by simp) b0
  obtain ⟨c3, c4, ct, cb, l0, i0, i1, i2, ⟨A3, n3, m3, -, -, -, t3⟩, ⟨A4, n4, m4, -, -, -, t4⟩, ⟨c6, c7, rfl, j0, j1, ⟨A6, n6, m6, h6a, h6b, h6c, t6⟩, ⟨A7, n7, m7, h7a, h7b, h7c, t7⟩⟩, ⟨c8, c9, rfl, j2, j3, ⟨A8, n8, m8, h8a, h8b, h8c, t8⟩, ⟨A9, n9, m9, h9a, h9b, h9c, t9⟩⟩⟩ := e0
  injection m3 with m3; subst m3
  injection m4 with m4; subst m4
  injection m6 with m6; subst m6
  injection m7 with m7; subst m7
  injection m8 with m8; subst m8
  injection m9 with m9; subst m9
  have q0 := agg_of Try.underlying72 (hval 0 _ v0 rfl rfl) l0
  subst q0
  have b0' : 1 + 1 + 1 + 1 + Meas.blk x0.ins + Meas.blk x0.exits + Meas.blk x0.turn + Meas.blk x0.back ≤ 1048576 := b0
  rw [blk_list, blk_list] at b0'
  have l1 := blk_len blk_ti_ x0.ins
  have l2 := blk_len blk_ex_ x0.exits
  have l3 := vals_blk x0.turn
  have l4 := vals_blk x0.back
  have htr : TrAt W W.heap.size x0.ins x0.exits x0.turn x0.back A3 A4 A6 n6 A7 n7 A8 n8 A9 n9 :=
    ⟨t3, t4, ⟨_, _, rfl, j0, j1, ⟨A6, n6, rfl, h6a, h6b, h6c, t6⟩, ⟨A7, n7, rfl, h7a, h7b, h7c, t7⟩⟩, ⟨_, _, rfl, j2, j3, ⟨A8, n8, rfl, h8a, h8b, h8c, t8⟩, ⟨A9, n9, rfl, h9a, h9b, h9c, t9⟩⟩⟩
  refine (liveTells_any W.heap.size n3 n4 n6 n7 n8 n9 A3 A4 A6 A7 A8 A9 x0.fn x0.at_ x0.loop x0.ins x0.exits x0.turn x0.back W htr (Nat.le_refl _) (by omega) (by omega) (fun y hy => ?_) (by omega) (by omega)).mono fun e W' ⟨he, hb⟩ => ?_
  · have h3 := vals_blk y
    have h4 : Meas.blk y ≤ blkSum x0.exits := blk_mem hy
    omega
  subst he
  exact ⟨_, rfl, post_law hW' rfl rfl rfl Try.underlying4 prog_laidOut (by kernel_rfl) hb⟩

set_option maxRecDepth 100000 in
theorem liveTells_lifted (os : Os) (started : os.Started) (H : Type) (enc : TypeId × Value → H) (F : Stop.Interp) :
    ReturnsInHanded {} Try.checked os 7 .any ((Rows.OpenSpec.upto Rows.liveTellsSpec).pre6 enc Try.prog Try.f7 Rows.liveTellsUptoRow.domain false) (((Rows.OpenSpec.upto Rows.liveTellsSpec).at F).post enc Try.prog Try.f7 false true false false) := by
  refine returnsInHanded_of_cond (C := Try.checked) (s := Rows.OpenSpec.upto Rows.liveTellsSpec) (k := Rows.uptoSmall) rfl prog_own started (by kernel_rfl) Try.func7
    (OpenSpec.witness (enc := enc) (C := Try.checked) (s := Rows.OpenSpec.upto Rows.liveTellsSpec) (k := Rows.uptoSmall) rfl false ⟨#[], #[.agg #[.int .i64 0, .int .i64 0, .int .i64 0, .slice none 0 0, .slice none 0 0, .int .i64 0, .int .i64 0, .slice none 0 0, .slice none 0 0, .int .i64 0, .int .i64 0, .slice none 0 0, .slice none 0 0]], []⟩ 8 (by kernel_rfl) (by kernel_rfl) (by kernel_rfl)
      (x := ([.agg [.lit (.int .i64 0), .lit (.int .i64 0), .lit (.int .i64 0), .nil, .nil, .agg [.lit (.int .i64 0), .lit (.int .i64 0), .nil, .nil], .agg [.lit (.int .i64 0), .lit (.int .i64 0), .nil, .nil]]], [], [])) (by kernel_rfl) rfl (by kernel_rfl)) ?_
  intro W base args ds gs before hval hW _ hk _
  exact liveTells_contract H enc W base args ds gs before hval hW hk

theorem liveTells_holds : Rows.LiveTellsUptoSaid :=
  OpenClaim.holds_of_cond 7 Try.f7 rfl rfl rfl rfl rfl rfl rfl ⟨rfl, rfl, rfl, rfl, rfl⟩ rfl rfl rfl rfl rfl (by kernel_rfl) Try.func7 (by kernel_rfl)
    (of_decide_eq_true (by kernel_rfl)) (by unfold Func.isWrapper; first | (rw [if_pos (by decide +kernel)]; kernel_rfl) | (rw [if_neg (by decide +kernel)]; exact ⟨rfl, rfl⟩))
    (fun os started H enc _ F => liveTells_lifted os started H enc F)
#print axioms liveTells_holds
end Go.Proofs.Ytljdnadejmkaeaa
