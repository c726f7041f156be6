/-
  TopWords: whatever the program and the state: a right state's cells, written in words, are read again as the same; what is not reached has no more words; with the library's table of white space as the program's text lays it.
-/
import Derived.Test.YtdlcooplllimeaaGreatDoorKW15
import Derived.Test.YtdlcooplllimeaaGreatDoorKT4
import Derived.Test.YtdlcooplllimeaaGreatDoorKT21
import Derived.Test.YtdlcooplllimeaaGreatDoorTie
import Derived.Test.YtdlcooplllimeaaGreatDoorCards
import Derived.SevenTiedAt
namespace Go.Proofs.YtdlcooplllimeaaGreatDoor
open Go.RowKit Go.ChangeShapes Go.WideShapes Go.Deep

open Top
set_option maxRecDepth 100000 in
theorem topWords_contract (H : Type) (enc : TypeId × Value → H) (W : World) (base : Nat) (args : Array Value) (ds gs : List (DataW H)) (before : List MemPlace)
    (hval0 : ∀ (j : Nat) t v, Tryz.f5.params[j]? = some t → args[j]? = some v → Value.okWide Tryz.prog W .any base t v)
    (hW : DataW.Whole enc Tryz.prog Tryz.f5.params.toList Rows.topWordsSpec.vars false W args.toList ds gs before) (hL : laidMetH Tryz.prog laid2 W) :
    Calls Tryz.prog 5 args W fun e W' => ∃ v, e = .returned v ∧ Rows.topWordsSpec.post enc Tryz.prog Tryz.f5 false true false false W args v W' := by
  have hval : ∀ (j : Nat) t v, Tryz.f5.params[j]? = some t → args[j]? = some v → Value.okWide Tryz.prog W .any base t v := hval0
  have hT := tabs_of_laid hL
  have hW' := hW
  obtain ⟨p, q, hA0, hV, rfl, -, -⟩ := hW
  have hA : DataW.TrodAll enc Tryz.prog W 0 (fun _ => true) true Tryz.f5.params.toList args.toList ds p := hA0
  rw [Tryz.params5] at hA hval
  obtain ⟨v0, vs0, d0, ds0, p0, q0, hargs, rfl, rfl, h0, r0⟩ := trodAll_cons hA
  obtain ⟨v1, vs1, d1, ds1, p1, q1, rfl, rfl, rfl, h1, r1⟩ := trodAll_cons r0
  obtain ⟨rfl, rfl, rfl⟩ := trodAll_nil r1
  obtain rfl : args = #[v0, v1] := by cases args; simp_all
  obtain ⟨rfl, rfl⟩ := trodVars_none hV
  obtain ⟨u0, k0⟩ := h0
  obtain ⟨u1, k1⟩ := h1
  obtain ⟨x0, e0, -, -⟩ := opens_Pg.2.2.2 _ _ _ _ _ _ _ _ k0
  obtain ⟨x1, e1, -, -⟩ := opens_Stt.2.2.2 _ _ _ _ _ _ _ _ k1
  obtain ⟨cf, ck, cx, l0, ⟨FA, fc, m1, hf1, hf2, -, t1⟩, ⟨KA, kc, m2, -, -, -, t2⟩, ⟨XA, xc, m3, hx1, hx2, -, t3⟩⟩ := e0
  injection m1 with m1; subst m1
  injection m2 with m2; subst m2
  injection m3 with m3; subst m3
  obtain ⟨c1, c2, c3, c4, c5, c6, l1, ⟨CA, cc, n1, hc1, hc2, -, y1⟩, ⟨SA, sc, n2, hs1', hs2', -, y2⟩, ⟨TA, tc, n3, ht1, ht2, -, y3⟩, ⟨HA, hc, n4, hh1, hh2, -, y4⟩, ⟨EA, ec, n5, he1, he2, -, y5⟩, ⟨DA, dc, n6, hd1, hd2, -, y6⟩, j1, j2⟩ := e1
  injection n1 with n1; subst n1
  injection n2 with n2; subst n2
  injection n3 with n3; subst n3
  injection n4 with n4; subst n4
  injection n5 with n5; subst n5
  injection n6 with n6; subst n6
  have q0 := agg_of Tryz.underlying26 (hval 0 _ v0 rfl rfl) l0
  have q1 := agg_of Tryz.underlying32 (hval 1 _ v1 rfl rfl) l1
  subst q0 q1
  have hst : StP W W.heap.size x1 CA SA TA HA EA DA cc sc tc hc ec dc := ⟨y1, y2, y3, y4, y5, y6, ⟨hc1, hc2⟩, ⟨hs1', hs2'⟩, ⟨ht1, ht2⟩, ⟨hh1, hh2⟩, ⟨he1, he2⟩, ⟨hd1, hd2⟩⟩
  refine (topWords_any W W.heap.size x0 x1 FA KA XA CA SA TA HA EA DA fc kc xc cc sc tc hc ec dc t1 t2 t3 ⟨hx1, hx2⟩ hst (Nat.le_refl _) hT).mono fun e W' ⟨he, hb⟩ => ?_
  subst he
  exact ⟨_, rfl, post_law hW' rfl rfl rfl Tryz.underlying4 prog_laidOut (by kernel_rfl) hb⟩

set_option maxRecDepth 100000 in
theorem topWords_lifted (os : Os) (started : os.Started) (H : Type) (enc : TypeId × Value → H) (F : Stop.Interp) :
    ReturnsInHanded {} Tryz.checked os 5 .any ((OpenSpec.ofChange Rows.topWordsSpec).preRow enc Tryz.prog Tryz.f5 [] false laid2) (((OpenSpec.ofChange Rows.topWordsSpec).at F).post enc Tryz.prog Tryz.f5 false true false false) := by
  refine returnsInHanded_of_row (C := Tryz.checked) (s := OpenSpec.ofChange Rows.topWordsSpec) prog_own started (by kernel_rfl) Tryz.func5 ?_ ?_
  · refine witness_row_sh false (door os) #[.agg #[.slice none 0 0, .slice none 0 0, .slice none 0 0], .agg #[.slice none 0 0, .slice none 0 0, .slice none 0 0, .slice none 0 0, .slice none 0 0, .slice none 0 0, .int .i64 0, .int .i64 0]] rfl (door_shaped os _) (by kernel_rfl) ?_
    exact OpenSpec.preRow_of_B rfl 8 (by kernel_rfl) (by kernel_rfl) (door_met os _)
  · intro W base args ds gs before hval hW _ _ _ hL _ _
    exact topWords_contract H enc W base args ds gs before hval hW hL

set_option maxRecDepth 100000 in
theorem topWords_row : Rows.TopWordsSaid :=
  OpenClaim.holds_of_cond 5 Tryz.f5 rfl rfl rfl rfl rfl rfl rfl ⟨rfl, rfl, rfl, rfl, rfl⟩ rfl rfl rfl rfl rfl (by kernel_rfl) Tryz.func5 (by kernel_rfl)
    (of_decide_eq_true (by kernel_rfl)) (by unfold Func.isWrapper; first | (rw [if_pos (by decide +kernel)]; kernel_rfl) | (rw [if_neg (by decide +kernel)]; exact ⟨rfl, rfl⟩))
    (fun os started H enc _ F => by rw [OpenClaim.pre_eq_preRow]; exact topWords_lifted os started H enc F)

set_option maxRecDepth 100000 in
theorem topWords_holds : Rows.TopWordsCardSaid :=
  Claim7.holds_tied_plain_at .later [] [.listed, .data] true (true, "4d887e7c6e89917508475b52f4e2e0eb4377419d781b666581862aa5e2c7df87") false
    topWords_row (fun _ h => by cases h) (by kernel_rfl) (fun _ h => by cases h) topWords_row_tie rfl ⟨rfl, rfl⟩ (by kernel_rfl) rfl
    (fun f fn hf hfn => by
      obtain rfl : f = 5 := Option.some.inj ((show Tryz.prog.funcNamed "backstitch/backstitchtop.TopWords" = some 5 by kernel_rfl).symm.trans hf) |>.symm
      obtain rfl : fn = Tryz.f5 := (Option.some.inj (Tryz.func5.symm.trans hfn)).symm
      exact ⟨by kernel_rfl, fun j t ht => by
        rw [Tryz.params5] at ht
        have hm : t ∈ [26, 32] := by simpa using Array.mem_of_getElem? ht
        have hall : ([26, 32].all fun u => !Tryz.prog.wantsStandIn u) = true := by kernel_rfl
        exact (show Tryz.prog.wantsStandIn t = false by simpa using List.all_eq_true.1 hall t hm)⟩)
    (by kernel_rfl)
#print axioms topWords_holds
end Go.Proofs.YtdlcooplllimeaaGreatDoor
