/- RF: Open. -/
import Derived.Test.YtljdnadejmkaeaaRF47
/-
  The types of this seat's arguments, opened (printed by genopen.py).
-/
namespace Go.Proofs.Ytljdnadejmkaeaa
open Go.RowKit Go.ChangeShapes Go.WideShapes Go.Deep

theorem opens_Int : Opens Int Try.prog 3 := opens_int Try.underlying3 (by kernel_rfl) (by kernel_rfl)

theorem opens_P_Val : Opens (Int × Int) Try.prog 23 := by
  refine ⟨by kernel_rfl, by kernel_rfl, by decide, ?_⟩
  intro H enc w spare held fuel cs x h
  obtain ⟨xs, n, -, rfl, hl, hxl, hf⟩ := DataW.trod_struct Try.underlying23 h
  have hl' : cs.length = 1 + 1 := hl.trans (by kernel_rfl)
  have hxl' : xs.length = 1 + 1 := hxl
  obtain ⟨c0, r, rfl, hl2⟩ := lenS hl'
  obtain ⟨c1, rfl⟩ := len1 hl2
  obtain ⟨y0, s, rfl, hxl2⟩ := lenS hxl'
  obtain ⟨y1, rfl⟩ := len1 hxl2
  have g0 : DataW.trod enc Try.prog w 0 spare held n 3 (([c0, c1].drop 0).take (Try.prog.cellsOf 3)) = some y0 := hf 0 _ rfl
  have g1 : DataW.trod enc Try.prog w 0 spare held n 3 (([c0, c1].drop 1).take (Try.prog.cellsOf 3)) = some y1 := hf 1 _ rfl
  rw [show Try.prog.cellsOf 3 = 1 from opens_Int.2.1] at g0 g1
  obtain ⟨a0, ⟨e0, i0⟩, -, -⟩ := opens_Int.2.2.2 _ _ _ _ _ _ _ _ g0
  obtain ⟨a1, ⟨e1, i1⟩, -, -⟩ := opens_Int.2.2.2 _ _ _ _ _ _ _ _ g1
  injection e0 with e0; subst e0
  injection e1 with e1; subst e1
  refine ⟨(a0, a1), ⟨rfl, i0, i1⟩, fun _ _ => trivial, ?_⟩
  have b0 := bulk_pos y0.1
  have b1 := bulk_pos y1.1
  simp only [Meas.blk, Rows.uptoBulk, Rows.uptoBulkAll, List.map_cons, List.map_nil]
  omega
theorem opens_P_Val_l : Opens (List (Int × Int)) Try.prog 24 := opens_list Try.underlying24 (by kernel_rfl) (by kernel_rfl) opens_P_Val

theorem opens_P_Try : Opens (Int × Int) Try.prog 44 := by
  refine ⟨by kernel_rfl, by kernel_rfl, by decide, ?_⟩
  intro H enc w spare held fuel cs x h
  obtain ⟨xs, n, -, rfl, hl, hxl, hf⟩ := DataW.trod_struct Try.underlying44 h
  have hl' : cs.length = 1 + 1 := hl.trans (by kernel_rfl)
  have hxl' : xs.length = 1 + 1 := hxl
  obtain ⟨c0, r, rfl, hl2⟩ := lenS hl'
  obtain ⟨c1, rfl⟩ := len1 hl2
  obtain ⟨y0, s, rfl, hxl2⟩ := lenS hxl'
  obtain ⟨y1, rfl⟩ := len1 hxl2
  have g0 : DataW.trod enc Try.prog w 0 spare held n 3 (([c0, c1].drop 0).take (Try.prog.cellsOf 3)) = some y0 := hf 0 _ rfl
  have g1 : DataW.trod enc Try.prog w 0 spare held n 3 (([c0, c1].drop 1).take (Try.prog.cellsOf 3)) = some y1 := hf 1 _ rfl
  rw [show Try.prog.cellsOf 3 = 1 from opens_Int.2.1] at g0 g1
  obtain ⟨a0, ⟨e0, i0⟩, -, -⟩ := opens_Int.2.2.2 _ _ _ _ _ _ _ _ g0
  obtain ⟨a1, ⟨e1, i1⟩, -, -⟩ := opens_Int.2.2.2 _ _ _ _ _ _ _ _ g1
  injection e0 with e0; subst e0
  injection e1 with e1; subst e1
  refine ⟨(a0, a1), ⟨rfl, i0, i1⟩, fun _ _ => trivial, ?_⟩
  have b0 := bulk_pos y0.1
  have b1 := bulk_pos y1.1
  simp only [Meas.blk, Rows.uptoBulk, Rows.uptoBulkAll, List.map_cons, List.map_nil]
  omega
theorem opens_P_Try_l : Opens (List (Int × Int)) Try.prog 25 := opens_list Try.underlying25 (by kernel_rfl) (by kernel_rfl) opens_P_Try

instance : Meas Fr where
  bytes := 96
  fits M x := Meas.fits M x.regs ∧ Meas.fits M x.tries
  blk x := 1 + 1 + 1 + 1 + 1 + 3 + Meas.blk x.regs + Meas.blk x.tries
instance : Inhabited Fr := ⟨⟨default, default, default, default, default, default, default⟩⟩
theorem opens_Fr : Opens Fr Try.prog 27 := by
  refine ⟨by kernel_rfl, by kernel_rfl, by decide, ?_⟩
  intro H enc w spare held fuel cs x h
  obtain ⟨xs, n, -, rfl, hl, hxl, hf⟩ := DataW.trod_struct Try.underlying27 h
  have hl1 : cs.length = 7 + 1 := hl.trans (by kernel_rfl)
  have hx1 : xs.length = 6 + 1 := hxl
  obtain ⟨c0, r0, rfl, hl2⟩ := lenS hl1
  obtain ⟨c1, r1, rfl, hl3⟩ := lenS hl2
  obtain ⟨c2, r2, rfl, hl4⟩ := lenS hl3
  obtain ⟨c3, r3, rfl, hl5⟩ := lenS hl4
  obtain ⟨c4, r4, rfl, hl6⟩ := lenS hl5
  obtain ⟨c5, r5, rfl, hl7⟩ := lenS hl6
  obtain ⟨c6, r6, rfl, hl8⟩ := lenS hl7
  obtain ⟨c7, rfl⟩ := len1 hl8
  obtain ⟨y0, s0, rfl, hx2⟩ := lenS hx1
  obtain ⟨y1, s1, rfl, hx3⟩ := lenS hx2
  obtain ⟨y2, s2, rfl, hx4⟩ := lenS hx3
  obtain ⟨y3, s3, rfl, hx5⟩ := lenS hx4
  obtain ⟨y4, s4, rfl, hx6⟩ := lenS hx5
  obtain ⟨y5, s5, rfl, hx7⟩ := lenS hx6
  obtain ⟨y6, rfl⟩ := len1 hx7
  have g0 : DataW.trod enc Try.prog w 0 spare held n 3 (([c0, c1, c2, c3, c4, c5, c6, c7].drop 0).take (Try.prog.cellsOf 3)) = some y0 := hf 0 _ rfl
  have g1 : DataW.trod enc Try.prog w 0 spare held n 3 (([c0, c1, c2, c3, c4, c5, c6, c7].drop 1).take (Try.prog.cellsOf 3)) = some y1 := hf 1 _ rfl
  have g2 : DataW.trod enc Try.prog w 0 spare held n 3 (([c0, c1, c2, c3, c4, c5, c6, c7].drop 2).take (Try.prog.cellsOf 3)) = some y2 := hf 2 _ rfl
  have g3 : DataW.trod enc Try.prog w 0 spare held n 3 (([c0, c1, c2, c3, c4, c5, c6, c7].drop 3).take (Try.prog.cellsOf 3)) = some y3 := hf 3 _ rfl
  have g4 : DataW.trod enc Try.prog w 0 spare held n 23 (([c0, c1, c2, c3, c4, c5, c6, c7].drop 4).take (Try.prog.cellsOf 23)) = some y4 := hf 4 _ rfl
  have g5 : DataW.trod enc Try.prog w 0 spare held n 24 (([c0, c1, c2, c3, c4, c5, c6, c7].drop 6).take (Try.prog.cellsOf 24)) = some y5 := hf 5 _ rfl
  have g6 : DataW.trod enc Try.prog w 0 spare held n 25 (([c0, c1, c2, c3, c4, c5, c6, c7].drop 7).take (Try.prog.cellsOf 25)) = some y6 := hf 6 _ rfl
  rw [show Try.prog.cellsOf 3 = 1 from opens_Int.2.1] at g0
  obtain ⟨a0, q0, f0, b0⟩ := opens_Int.2.2.2 _ _ _ _ _ _ _ _ g0
  obtain ⟨e0, i0⟩ := q0
  injection e0 with e0; subst e0
  rw [show Try.prog.cellsOf 3 = 1 from opens_Int.2.1] at g1
  obtain ⟨a1, q1, f1, b1⟩ := opens_Int.2.2.2 _ _ _ _ _ _ _ _ g1
  obtain ⟨e1, i1⟩ := q1
  injection e1 with e1; subst e1
  rw [show Try.prog.cellsOf 3 = 1 from opens_Int.2.1] at g2
  obtain ⟨a2, q2, f2, b2⟩ := opens_Int.2.2.2 _ _ _ _ _ _ _ _ g2
  obtain ⟨e2, i2⟩ := q2
  injection e2 with e2; subst e2
  rw [show Try.prog.cellsOf 3 = 1 from opens_Int.2.1] at g3
  obtain ⟨a3, q3, f3, b3⟩ := opens_Int.2.2.2 _ _ _ _ _ _ _ _ g3
  obtain ⟨e3, i3⟩ := q3
  injection e3 with e3; subst e3
  rw [show Try.prog.cellsOf 23 = 2 from opens_P_Val.2.1] at g4
  obtain ⟨a4, q4, f4, b4⟩ := opens_P_Val.2.2.2 _ _ _ _ _ _ _ _ g4
  obtain ⟨e4, i4⟩ := q4
  injection e4 with e4 k4; injection k4 with k4; subst e4 k4
  rw [show Try.prog.cellsOf 24 = 1 from opens_P_Val_l.2.1] at g5
  obtain ⟨a5, q5, f5, b5⟩ := opens_P_Val_l.2.2.2 _ _ _ _ _ _ _ _ g5
  rw [show Try.prog.cellsOf 25 = 1 from opens_P_Try_l.2.1] at g6
  obtain ⟨a6, q6, f6, b6⟩ := opens_P_Try_l.2.2.2 _ _ _ _ _ _ _ _ g6
  refine ⟨⟨a0, a1, a2, a3, a4, a5, a6⟩, ⟨c6, c7, rfl, i0, i1, i2, i3, i4.1, i4.2, q5, q6⟩, fun M hM => ⟨f5 M fun m hm => hM m (by simp [DataW.weights, DataW.weightsEach, Try.underlying27, hm]), f6 M fun m hm => hM m (by simp [DataW.weights, DataW.weightsEach, Try.underlying27, hm])⟩, ?_⟩
  have t_ : Meas.blk a0 ≤ Rows.uptoBulk y0.1 ∧ Meas.blk a1 ≤ Rows.uptoBulk y1.1 ∧ Meas.blk a2 ≤ Rows.uptoBulk y2.1 ∧ Meas.blk a3 ≤ Rows.uptoBulk y3.1 ∧ Meas.blk a4 ≤ Rows.uptoBulk y4.1 ∧ Meas.blk a5 ≤ Rows.uptoBulk y5.1 ∧ Meas.blk a6 ≤ Rows.uptoBulk y6.1 := ⟨b0, b1, b2, b3, b4, b5, b6⟩
  show 1 + 1 + 1 + 1 + 1 + 3 + Meas.blk a5 + Meas.blk a6 ≤ _
  have z0 : 1 ≤ Rows.uptoBulk y0.1 := b0
  have z1 : 1 ≤ Rows.uptoBulk y1.1 := b1
  have z2 : 1 ≤ Rows.uptoBulk y2.1 := b2
  have z3 : 1 ≤ Rows.uptoBulk y3.1 := b3
  have z4 : 3 ≤ Rows.uptoBulk y4.1 := b4
  simp only [Rows.uptoBulk, Rows.uptoBulkAll, List.map_cons, List.map_nil]
  omega
theorem opens_Fr_l : Opens (List Fr) Try.prog 50 := opens_list Try.underlying50 (by kernel_rfl) (by kernel_rfl) opens_Fr

theorem opens_P_TSet : Opens (Int × Int) Try.prog 38 := by
  refine ⟨by kernel_rfl, by kernel_rfl, by decide, ?_⟩
  intro H enc w spare held fuel cs x h
  obtain ⟨xs, n, -, rfl, hl, hxl, hf⟩ := DataW.trod_struct Try.underlying38 h
  have hl' : cs.length = 1 + 1 := hl.trans (by kernel_rfl)
  have hxl' : xs.length = 1 + 1 := hxl
  obtain ⟨c0, r, rfl, hl2⟩ := lenS hl'
  obtain ⟨c1, rfl⟩ := len1 hl2
  obtain ⟨y0, s, rfl, hxl2⟩ := lenS hxl'
  obtain ⟨y1, rfl⟩ := len1 hxl2
  have g0 : DataW.trod enc Try.prog w 0 spare held n 3 (([c0, c1].drop 0).take (Try.prog.cellsOf 3)) = some y0 := hf 0 _ rfl
  have g1 : DataW.trod enc Try.prog w 0 spare held n 3 (([c0, c1].drop 1).take (Try.prog.cellsOf 3)) = some y1 := hf 1 _ rfl
  rw [show Try.prog.cellsOf 3 = 1 from opens_Int.2.1] at g0 g1
  obtain ⟨a0, ⟨e0, i0⟩, -, -⟩ := opens_Int.2.2.2 _ _ _ _ _ _ _ _ g0
  obtain ⟨a1, ⟨e1, i1⟩, -, -⟩ := opens_Int.2.2.2 _ _ _ _ _ _ _ _ g1
  injection e0 with e0; subst e0
  injection e1 with e1; subst e1
  refine ⟨(a0, a1), ⟨rfl, i0, i1⟩, fun _ _ => trivial, ?_⟩
  have b0 := bulk_pos y0.1
  have b1 := bulk_pos y1.1
  simp only [Meas.blk, Rows.uptoBulk, Rows.uptoBulkAll, List.map_cons, List.map_nil]
  omega
theorem opens_P_TSet_l : Opens (List (Int × Int)) Try.prog 28 := opens_list Try.underlying28 (by kernel_rfl) (by kernel_rfl) opens_P_TSet

theorem opens_LInt : Opens (List Int) Try.prog 40 := opens_list Try.underlying40 (by kernel_rfl) (by kernel_rfl) opens_Int

instance : Meas Mk where
  bytes := 48
  fits M x := Meas.fits M x.vals
  blk x := 1 + 1 + 1 + 1 + Meas.blk x.vals
instance : Inhabited Mk := ⟨⟨default, default, default, default⟩⟩
theorem opens_Mk : Opens Mk Try.prog 54 := by
  refine ⟨by kernel_rfl, by kernel_rfl, by decide, ?_⟩
  intro H enc w spare held fuel cs x h
  obtain ⟨xs, n, -, rfl, hl, hxl, hf⟩ := DataW.trod_struct Try.underlying54 h
  have hl1 : cs.length = 3 + 1 := hl.trans (by kernel_rfl)
  have hx1 : xs.length = 3 + 1 := hxl
  obtain ⟨c0, r0, rfl, hl2⟩ := lenS hl1
  obtain ⟨c1, r1, rfl, hl3⟩ := lenS hl2
  obtain ⟨c2, r2, rfl, hl4⟩ := lenS hl3
  obtain ⟨c3, rfl⟩ := len1 hl4
  obtain ⟨y0, s0, rfl, hx2⟩ := lenS hx1
  obtain ⟨y1, s1, rfl, hx3⟩ := lenS hx2
  obtain ⟨y2, s2, rfl, hx4⟩ := lenS hx3
  obtain ⟨y3, rfl⟩ := len1 hx4
  have g0 : DataW.trod enc Try.prog w 0 spare held n 3 (([c0, c1, c2, c3].drop 0).take (Try.prog.cellsOf 3)) = some y0 := hf 0 _ rfl
  have g1 : DataW.trod enc Try.prog w 0 spare held n 3 (([c0, c1, c2, c3].drop 1).take (Try.prog.cellsOf 3)) = some y1 := hf 1 _ rfl
  have g2 : DataW.trod enc Try.prog w 0 spare held n 3 (([c0, c1, c2, c3].drop 2).take (Try.prog.cellsOf 3)) = some y2 := hf 2 _ rfl
  have g3 : DataW.trod enc Try.prog w 0 spare held n 40 (([c0, c1, c2, c3].drop 3).take (Try.prog.cellsOf 40)) = some y3 := hf 3 _ rfl
  rw [show Try.prog.cellsOf 3 = 1 from opens_Int.2.1] at g0
  obtain ⟨a0, q0, f0, b0⟩ := opens_Int.2.2.2 _ _ _ _ _ _ _ _ g0
  obtain ⟨e0, i0⟩ := q0
  injection e0 with e0; subst e0
  rw [show Try.prog.cellsOf 3 = 1 from opens_Int.2.1] at g1
  obtain ⟨a1, q1, f1, b1⟩ := opens_Int.2.2.2 _ _ _ _ _ _ _ _ g1
  obtain ⟨e1, i1⟩ := q1
  injection e1 with e1; subst e1
  rw [show Try.prog.cellsOf 3 = 1 from opens_Int.2.1] at g2
  obtain ⟨a2, q2, f2, b2⟩ := opens_Int.2.2.2 _ _ _ _ _ _ _ _ g2
  obtain ⟨e2, i2⟩ := q2
  injection e2 with e2; subst e2
  rw [show Try.prog.cellsOf 40 = 1 from opens_LInt.2.1] at g3
  obtain ⟨a3, q3, f3, b3⟩ := opens_LInt.2.2.2 _ _ _ _ _ _ _ _ g3
  refine ⟨⟨a0, a1, a2, a3⟩, ⟨c3, rfl, i0, i1, i2, q3⟩, fun M hM => f3 M fun m hm => hM m (by simp [DataW.weights, DataW.weightsEach, Try.underlying54, hm]), ?_⟩
  have t_ : Meas.blk a0 ≤ Rows.uptoBulk y0.1 ∧ Meas.blk a1 ≤ Rows.uptoBulk y1.1 ∧ Meas.blk a2 ≤ Rows.uptoBulk y2.1 ∧ Meas.blk a3 ≤ Rows.uptoBulk y3.1 := ⟨b0, b1, b2, b3⟩
  show 1 + 1 + 1 + 1 + Meas.blk a3 ≤ _
  have z0 : 1 ≤ Rows.uptoBulk y0.1 := b0
  have z1 : 1 ≤ Rows.uptoBulk y1.1 := b1
  have z2 : 1 ≤ Rows.uptoBulk y2.1 := b2
  simp only [Rows.uptoBulk, Rows.uptoBulkAll, List.map_cons, List.map_nil]
  omega
theorem opens_Mk_l : Opens (List Mk) Try.prog 29 := opens_list Try.underlying29 (by kernel_rfl) (by kernel_rfl) opens_Mk

instance : Meas Ex where
  bytes := 64
  fits M x := Meas.fits M x.sets ∧ Meas.fits M x.makes
  blk x := 1 + 1 + 1 + Meas.blk x.sets + Meas.blk x.makes
instance : Inhabited Ex := ⟨⟨default, default, default, default⟩⟩
theorem opens_Ex : Opens Ex Try.prog 31 := by
  refine ⟨by kernel_rfl, by kernel_rfl, by decide, ?_⟩
  intro H enc w spare held fuel cs x h
  obtain ⟨xs, n, -, rfl, hl, hxl, hf⟩ := DataW.trod_struct Try.underlying31 h
  have hl1 : cs.length = 3 + 1 := hl.trans (by kernel_rfl)
  have hx1 : xs.length = 3 + 1 := hxl
  obtain ⟨c0, r0, rfl, hl2⟩ := lenS hl1
  obtain ⟨c1, r1, rfl, hl3⟩ := lenS hl2
  obtain ⟨c2, r2, rfl, hl4⟩ := lenS hl3
  obtain ⟨c3, rfl⟩ := len1 hl4
  obtain ⟨y0, s0, rfl, hx2⟩ := lenS hx1
  obtain ⟨y1, s1, rfl, hx3⟩ := lenS hx2
  obtain ⟨y2, s2, rfl, hx4⟩ := lenS hx3
  obtain ⟨y3, rfl⟩ := len1 hx4
  have g0 : DataW.trod enc Try.prog w 0 spare held n 3 (([c0, c1, c2, c3].drop 0).take (Try.prog.cellsOf 3)) = some y0 := hf 0 _ rfl
  have g1 : DataW.trod enc Try.prog w 0 spare held n 3 (([c0, c1, c2, c3].drop 1).take (Try.prog.cellsOf 3)) = some y1 := hf 1 _ rfl
  have g2 : DataW.trod enc Try.prog w 0 spare held n 28 (([c0, c1, c2, c3].drop 2).take (Try.prog.cellsOf 28)) = some y2 := hf 2 _ rfl
  have g3 : DataW.trod enc Try.prog w 0 spare held n 29 (([c0, c1, c2, c3].drop 3).take (Try.prog.cellsOf 29)) = some y3 := hf 3 _ rfl
  rw [show Try.prog.cellsOf 3 = 1 from opens_Int.2.1] at g0
  obtain ⟨a0, q0, f0, b0⟩ := opens_Int.2.2.2 _ _ _ _ _ _ _ _ g0
  obtain ⟨e0, i0⟩ := q0
  injection e0 with e0; subst e0
  rw [show Try.prog.cellsOf 3 = 1 from opens_Int.2.1] at g1
  obtain ⟨a1, q1, f1, b1⟩ := opens_Int.2.2.2 _ _ _ _ _ _ _ _ g1
  obtain ⟨e1, i1⟩ := q1
  injection e1 with e1; subst e1
  rw [show Try.prog.cellsOf 28 = 1 from opens_P_TSet_l.2.1] at g2
  obtain ⟨a2, q2, f2, b2⟩ := opens_P_TSet_l.2.2.2 _ _ _ _ _ _ _ _ g2
  rw [show Try.prog.cellsOf 29 = 1 from opens_Mk_l.2.1] at g3
  obtain ⟨a3, q3, f3, b3⟩ := opens_Mk_l.2.2.2 _ _ _ _ _ _ _ _ g3
  refine ⟨⟨a0, a1, a2, a3⟩, ⟨c2, c3, rfl, i0, i1, q2, q3⟩, fun M hM => ⟨f2 M fun m hm => hM m (by simp [DataW.weights, DataW.weightsEach, Try.underlying31, hm]), f3 M fun m hm => hM m (by simp [DataW.weights, DataW.weightsEach, Try.underlying31, hm])⟩, ?_⟩
  have t_ : Meas.blk a0 ≤ Rows.uptoBulk y0.1 ∧ Meas.blk a1 ≤ Rows.uptoBulk y1.1 ∧ Meas.blk a2 ≤ Rows.uptoBulk y2.1 ∧ Meas.blk a3 ≤ Rows.uptoBulk y3.1 := ⟨b0, b1, b2, b3⟩
  show 1 + 1 + 1 + Meas.blk a2 + Meas.blk a3 ≤ _
  have z0 : 1 ≤ Rows.uptoBulk y0.1 := b0
  have z1 : 1 ≤ Rows.uptoBulk y1.1 := b1
  simp only [Rows.uptoBulk, Rows.uptoBulkAll, List.map_cons, List.map_nil]
  omega
theorem opens_Ex_l : Opens (List Ex) Try.prog 70 := opens_list Try.underlying70 (by kernel_rfl) (by kernel_rfl) opens_Ex

instance : Meas Ce where
  bytes := 64
  fits M x := Meas.fits M x.vals ∧ Meas.fits M x.frames
  blk x := 1 + 1 + 1 + Meas.blk x.vals + Meas.blk x.frames
instance : Inhabited Ce := ⟨⟨default, default, default, default⟩⟩
theorem opens_Ce : Opens Ce Try.prog 52 := by
  refine ⟨by kernel_rfl, by kernel_rfl, by decide, ?_⟩
  intro H enc w spare held fuel cs x h
  obtain ⟨xs, n, -, rfl, hl, hxl, hf⟩ := DataW.trod_struct Try.underlying52 h
  have hl1 : cs.length = 3 + 1 := hl.trans (by kernel_rfl)
  have hx1 : xs.length = 3 + 1 := hxl
  obtain ⟨c0, r0, rfl, hl2⟩ := lenS hl1
  obtain ⟨c1, r1, rfl, hl3⟩ := lenS hl2
  obtain ⟨c2, r2, rfl, hl4⟩ := lenS hl3
  obtain ⟨c3, rfl⟩ := len1 hl4
  obtain ⟨y0, s0, rfl, hx2⟩ := lenS hx1
  obtain ⟨y1, s1, rfl, hx3⟩ := lenS hx2
  obtain ⟨y2, s2, rfl, hx4⟩ := lenS hx3
  obtain ⟨y3, rfl⟩ := len1 hx4
  have g0 : DataW.trod enc Try.prog w 0 spare held n 3 (([c0, c1, c2, c3].drop 0).take (Try.prog.cellsOf 3)) = some y0 := hf 0 _ rfl
  have g1 : DataW.trod enc Try.prog w 0 spare held n 3 (([c0, c1, c2, c3].drop 1).take (Try.prog.cellsOf 3)) = some y1 := hf 1 _ rfl
  have g2 : DataW.trod enc Try.prog w 0 spare held n 24 (([c0, c1, c2, c3].drop 2).take (Try.prog.cellsOf 24)) = some y2 := hf 2 _ rfl
  have g3 : DataW.trod enc Try.prog w 0 spare held n 50 (([c0, c1, c2, c3].drop 3).take (Try.prog.cellsOf 50)) = some y3 := hf 3 _ rfl
  rw [show Try.prog.cellsOf 3 = 1 from opens_Int.2.1] at g0
  obtain ⟨a0, q0, f0, b0⟩ := opens_Int.2.2.2 _ _ _ _ _ _ _ _ g0
  obtain ⟨e0, i0⟩ := q0
  injection e0 with e0; subst e0
  rw [show Try.prog.cellsOf 3 = 1 from opens_Int.2.1] at g1
  obtain ⟨a1, q1, f1, b1⟩ := opens_Int.2.2.2 _ _ _ _ _ _ _ _ g1
  obtain ⟨e1, i1⟩ := q1
  injection e1 with e1; subst e1
  rw [show Try.prog.cellsOf 24 = 1 from opens_P_Val_l.2.1] at g2
  obtain ⟨a2, q2, f2, b2⟩ := opens_P_Val_l.2.2.2 _ _ _ _ _ _ _ _ g2
  rw [show Try.prog.cellsOf 50 = 1 from opens_Fr_l.2.1] at g3
  obtain ⟨a3, q3, f3, b3⟩ := opens_Fr_l.2.2.2 _ _ _ _ _ _ _ _ g3
  refine ⟨⟨a0, a1, a2, a3⟩, ⟨c2, c3, rfl, i0, i1, q2, q3⟩, fun M hM => ⟨f2 M fun m hm => hM m (by simp [DataW.weights, DataW.weightsEach, Try.underlying52, hm]), f3 M fun m hm => hM m (by simp [DataW.weights, DataW.weightsEach, Try.underlying52, hm])⟩, ?_⟩
  have t_ : Meas.blk a0 ≤ Rows.uptoBulk y0.1 ∧ Meas.blk a1 ≤ Rows.uptoBulk y1.1 ∧ Meas.blk a2 ≤ Rows.uptoBulk y2.1 ∧ Meas.blk a3 ≤ Rows.uptoBulk y3.1 := ⟨b0, b1, b2, b3⟩
  show 1 + 1 + 1 + Meas.blk a2 + Meas.blk a3 ≤ _
  have z0 : 1 ≤ Rows.uptoBulk y0.1 := b0
  have z1 : 1 ≤ Rows.uptoBulk y1.1 := b1
  simp only [Rows.uptoBulk, Rows.uptoBulkAll, List.map_cons, List.map_nil]
  omega
theorem opens_Ce_l : Opens (List Ce) Try.prog 46 := opens_list Try.underlying46 (by kernel_rfl) (by kernel_rfl) opens_Ce

instance : Meas TI where
  bytes := 64
  fits M x := True
  blk x := 1 + 1 + 1 + 1 + 1 + 1 + 1 + 3
instance : Inhabited TI := ⟨⟨default, default, default, default, default, default, default⟩⟩
theorem opens_TI : Opens TI Try.prog 121 := by
  refine ⟨by kernel_rfl, by kernel_rfl, by decide, ?_⟩
  intro H enc w spare held fuel cs x h
  obtain ⟨xs, n, -, rfl, hl, hxl, hf⟩ := DataW.trod_struct Try.underlying121 h
  have hl1 : cs.length = 7 + 1 := hl.trans (by kernel_rfl)
  have hx1 : xs.length = 6 + 1 := hxl
  obtain ⟨c0, r0, rfl, hl2⟩ := lenS hl1
  obtain ⟨c1, r1, rfl, hl3⟩ := lenS hl2
  obtain ⟨c2, r2, rfl, hl4⟩ := lenS hl3
  obtain ⟨c3, r3, rfl, hl5⟩ := lenS hl4
  obtain ⟨c4, r4, rfl, hl6⟩ := lenS hl5
  obtain ⟨c5, r5, rfl, hl7⟩ := lenS hl6
  obtain ⟨c6, r6, rfl, hl8⟩ := lenS hl7
  obtain ⟨c7, rfl⟩ := len1 hl8
  obtain ⟨y0, s0, rfl, hx2⟩ := lenS hx1
  obtain ⟨y1, s1, rfl, hx3⟩ := lenS hx2
  obtain ⟨y2, s2, rfl, hx4⟩ := lenS hx3
  obtain ⟨y3, s3, rfl, hx5⟩ := lenS hx4
  obtain ⟨y4, s4, rfl, hx6⟩ := lenS hx5
  obtain ⟨y5, s5, rfl, hx7⟩ := lenS hx6
  obtain ⟨y6, rfl⟩ := len1 hx7
  have g0 : DataW.trod enc Try.prog w 0 spare held n 3 (([c0, c1, c2, c3, c4, c5, c6, c7].drop 0).take (Try.prog.cellsOf 3)) = some y0 := hf 0 _ rfl
  have g1 : DataW.trod enc Try.prog w 0 spare held n 3 (([c0, c1, c2, c3, c4, c5, c6, c7].drop 1).take (Try.prog.cellsOf 3)) = some y1 := hf 1 _ rfl
  have g2 : DataW.trod enc Try.prog w 0 spare held n 3 (([c0, c1, c2, c3, c4, c5, c6, c7].drop 2).take (Try.prog.cellsOf 3)) = some y2 := hf 2 _ rfl
  have g3 : DataW.trod enc Try.prog w 0 spare held n 3 (([c0, c1, c2, c3, c4, c5, c6, c7].drop 3).take (Try.prog.cellsOf 3)) = some y3 := hf 3 _ rfl
  have g4 : DataW.trod enc Try.prog w 0 spare held n 3 (([c0, c1, c2, c3, c4, c5, c6, c7].drop 4).take (Try.prog.cellsOf 3)) = some y4 := hf 4 _ rfl
  have g5 : DataW.trod enc Try.prog w 0 spare held n 3 (([c0, c1, c2, c3, c4, c5, c6, c7].drop 5).take (Try.prog.cellsOf 3)) = some y5 := hf 5 _ rfl
  have g6 : DataW.trod enc Try.prog w 0 spare held n 23 (([c0, c1, c2, c3, c4, c5, c6, c7].drop 6).take (Try.prog.cellsOf 23)) = some y6 := hf 6 _ rfl
  rw [show Try.prog.cellsOf 3 = 1 from opens_Int.2.1] at g0
  obtain ⟨a0, q0, f0, b0⟩ := opens_Int.2.2.2 _ _ _ _ _ _ _ _ g0
  obtain ⟨e0, i0⟩ := q0
  injection e0 with e0; subst e0
  rw [show Try.prog.cellsOf 3 = 1 from opens_Int.2.1] at g1
  obtain ⟨a1, q1, f1, b1⟩ := opens_Int.2.2.2 _ _ _ _ _ _ _ _ g1
  obtain ⟨e1, i1⟩ := q1
  injection e1 with e1; subst e1
  rw [show Try.prog.cellsOf 3 = 1 from opens_Int.2.1] at g2
  obtain ⟨a2, q2, f2, b2⟩ := opens_Int.2.2.2 _ _ _ _ _ _ _ _ g2
  obtain ⟨e2, i2⟩ := q2
  injection e2 with e2; subst e2
  rw [show Try.prog.cellsOf 3 = 1 from opens_Int.2.1] at g3
  obtain ⟨a3, q3, f3, b3⟩ := opens_Int.2.2.2 _ _ _ _ _ _ _ _ g3
  obtain ⟨e3, i3⟩ := q3
  injection e3 with e3; subst e3
  rw [show Try.prog.cellsOf 3 = 1 from opens_Int.2.1] at g4
  obtain ⟨a4, q4, f4, b4⟩ := opens_Int.2.2.2 _ _ _ _ _ _ _ _ g4
  obtain ⟨e4, i4⟩ := q4
  injection e4 with e4; subst e4
  rw [show Try.prog.cellsOf 3 = 1 from opens_Int.2.1] at g5
  obtain ⟨a5, q5, f5, b5⟩ := opens_Int.2.2.2 _ _ _ _ _ _ _ _ g5
  obtain ⟨e5, i5⟩ := q5
  injection e5 with e5; subst e5
  rw [show Try.prog.cellsOf 23 = 2 from opens_P_Val.2.1] at g6
  obtain ⟨a6, q6, f6, b6⟩ := opens_P_Val.2.2.2 _ _ _ _ _ _ _ _ g6
  obtain ⟨e6, i6⟩ := q6
  injection e6 with e6 k6; injection k6 with k6; subst e6 k6
  refine ⟨⟨a0, a1, a2, a3, a4, a5, a6⟩, ⟨rfl, i0, i1, i2, i3, i4, i5, i6.1, i6.2⟩, fun M hM => trivial, ?_⟩
  have t_ : Meas.blk a0 ≤ Rows.uptoBulk y0.1 ∧ Meas.blk a1 ≤ Rows.uptoBulk y1.1 ∧ Meas.blk a2 ≤ Rows.uptoBulk y2.1 ∧ Meas.blk a3 ≤ Rows.uptoBulk y3.1 ∧ Meas.blk a4 ≤ Rows.uptoBulk y4.1 ∧ Meas.blk a5 ≤ Rows.uptoBulk y5.1 ∧ Meas.blk a6 ≤ Rows.uptoBulk y6.1 := ⟨b0, b1, b2, b3, b4, b5, b6⟩
  show 1 + 1 + 1 + 1 + 1 + 1 + 1 + 3 ≤ _
  have z0 : 1 ≤ Rows.uptoBulk y0.1 := b0
  have z1 : 1 ≤ Rows.uptoBulk y1.1 := b1
  have z2 : 1 ≤ Rows.uptoBulk y2.1 := b2
  have z3 : 1 ≤ Rows.uptoBulk y3.1 := b3
  have z4 : 1 ≤ Rows.uptoBulk y4.1 := b4
  have z5 : 1 ≤ Rows.uptoBulk y5.1 := b5
  have z6 : 3 ≤ Rows.uptoBulk y6.1 := b6
  simp only [Rows.uptoBulk, Rows.uptoBulkAll, List.map_cons, List.map_nil]
  omega
theorem opens_TI_l : Opens (List TI) Try.prog 69 := opens_list Try.underlying69 (by kernel_rfl) (by kernel_rfl) opens_TI

instance : Meas TT where
  bytes := 200
  fits M x := Meas.fits M x.ins ∧ Meas.fits M x.exits ∧ Meas.fits M x.turn ∧ Meas.fits M x.back
  blk x := 1 + 1 + 1 + 1 + Meas.blk x.ins + Meas.blk x.exits + Meas.blk x.turn + Meas.blk x.back
instance : Inhabited TT := ⟨⟨default, default, default, default, default, default, default⟩⟩
theorem opens_TT : Opens TT Try.prog 72 := by
  refine ⟨by kernel_rfl, by kernel_rfl, by decide, ?_⟩
  intro H enc w spare held fuel cs x h
  obtain ⟨xs, n, -, rfl, hl, hxl, hf⟩ := DataW.trod_struct Try.underlying72 h
  have hl1 : cs.length = 12 + 1 := hl.trans (by kernel_rfl)
  have hx1 : xs.length = 6 + 1 := hxl
  obtain ⟨c0, r0, rfl, hl2⟩ := lenS hl1
  obtain ⟨c1, r1, rfl, hl3⟩ := lenS hl2
  obtain ⟨c2, r2, rfl, hl4⟩ := lenS hl3
  obtain ⟨c3, r3, rfl, hl5⟩ := lenS hl4
  obtain ⟨c4, r4, rfl, hl6⟩ := lenS hl5
  obtain ⟨c5, r5, rfl, hl7⟩ := lenS hl6
  obtain ⟨c6, r6, rfl, hl8⟩ := lenS hl7
  obtain ⟨c7, r7, rfl, hl9⟩ := lenS hl8
  obtain ⟨c8, r8, rfl, hl10⟩ := lenS hl9
  obtain ⟨c9, r9, rfl, hl11⟩ := lenS hl10
  obtain ⟨c10, r10, rfl, hl12⟩ := lenS hl11
  obtain ⟨c11, r11, rfl, hl13⟩ := lenS hl12
  obtain ⟨c12, rfl⟩ := len1 hl13
  obtain ⟨y0, s0, rfl, hx2⟩ := lenS hx1
  obtain ⟨y1, s1, rfl, hx3⟩ := lenS hx2
  obtain ⟨y2, s2, rfl, hx4⟩ := lenS hx3
  obtain ⟨y3, s3, rfl, hx5⟩ := lenS hx4
  obtain ⟨y4, s4, rfl, hx6⟩ := lenS hx5
  obtain ⟨y5, s5, rfl, hx7⟩ := lenS hx6
  obtain ⟨y6, rfl⟩ := len1 hx7
  have g0 : DataW.trod enc Try.prog w 0 spare held n 3 (([c0, c1, c2, c3, c4, c5, c6, c7, c8, c9, c10, c11, c12].drop 0).take (Try.prog.cellsOf 3)) = some y0 := hf 0 _ rfl
  have g1 : DataW.trod enc Try.prog w 0 spare held n 3 (([c0, c1, c2, c3, c4, c5, c6, c7, c8, c9, c10, c11, c12].drop 1).take (Try.prog.cellsOf 3)) = some y1 := hf 1 _ rfl
  have g2 : DataW.trod enc Try.prog w 0 spare held n 3 (([c0, c1, c2, c3, c4, c5, c6, c7, c8, c9, c10, c11, c12].drop 2).take (Try.prog.cellsOf 3)) = some y2 := hf 2 _ rfl
  have g3 : DataW.trod enc Try.prog w 0 spare held n 69 (([c0, c1, c2, c3, c4, c5, c6, c7, c8, c9, c10, c11, c12].drop 3).take (Try.prog.cellsOf 69)) = some y3 := hf 3 _ rfl
  have g4 : DataW.trod enc Try.prog w 0 spare held n 70 (([c0, c1, c2, c3, c4, c5, c6, c7, c8, c9, c10, c11, c12].drop 4).take (Try.prog.cellsOf 70)) = some y4 := hf 4 _ rfl
  have g5 : DataW.trod enc Try.prog w 0 spare held n 31 (([c0, c1, c2, c3, c4, c5, c6, c7, c8, c9, c10, c11, c12].drop 5).take (Try.prog.cellsOf 31)) = some y5 := hf 5 _ rfl
  have g6 : DataW.trod enc Try.prog w 0 spare held n 31 (([c0, c1, c2, c3, c4, c5, c6, c7, c8, c9, c10, c11, c12].drop 9).take (Try.prog.cellsOf 31)) = some y6 := hf 6 _ rfl
  rw [show Try.prog.cellsOf 3 = 1 from opens_Int.2.1] at g0
  obtain ⟨a0, q0, f0, b0⟩ := opens_Int.2.2.2 _ _ _ _ _ _ _ _ g0
  obtain ⟨e0, i0⟩ := q0
  injection e0 with e0; subst e0
  rw [show Try.prog.cellsOf 3 = 1 from opens_Int.2.1] at g1
  obtain ⟨a1, q1, f1, b1⟩ := opens_Int.2.2.2 _ _ _ _ _ _ _ _ g1
  obtain ⟨e1, i1⟩ := q1
  injection e1 with e1; subst e1
  rw [show Try.prog.cellsOf 3 = 1 from opens_Int.2.1] at g2
  obtain ⟨a2, q2, f2, b2⟩ := opens_Int.2.2.2 _ _ _ _ _ _ _ _ g2
  obtain ⟨e2, i2⟩ := q2
  injection e2 with e2; subst e2
  rw [show Try.prog.cellsOf 69 = 1 from opens_TI_l.2.1] at g3
  obtain ⟨a3, q3, f3, b3⟩ := opens_TI_l.2.2.2 _ _ _ _ _ _ _ _ g3
  rw [show Try.prog.cellsOf 70 = 1 from opens_Ex_l.2.1] at g4
  obtain ⟨a4, q4, f4, b4⟩ := opens_Ex_l.2.2.2 _ _ _ _ _ _ _ _ g4
  rw [show Try.prog.cellsOf 31 = 4 from opens_Ex.2.1] at g5
  obtain ⟨a5, q5, f5, b5⟩ := opens_Ex.2.2.2 _ _ _ _ _ _ _ _ g5
  rw [show Try.prog.cellsOf 31 = 4 from opens_Ex.2.1] at g6
  obtain ⟨a6, q6, f6, b6⟩ := opens_Ex.2.2.2 _ _ _ _ _ _ _ _ g6
  refine ⟨⟨a0, a1, a2, a3, a4, a5, a6⟩, ⟨c3, c4, [c5, c6, c7, c8], [c9, c10, c11, c12], rfl, i0, i1, i2, q3, q4, q5, q6⟩, fun M hM => ⟨f3 M fun m hm => hM m (by simp [DataW.weights, DataW.weightsEach, Try.underlying72, hm]), f4 M fun m hm => hM m (by simp [DataW.weights, DataW.weightsEach, Try.underlying72, hm]), f5 M fun m hm => hM m (by simp [DataW.weights, DataW.weightsEach, Try.underlying72, hm]), f6 M fun m hm => hM m (by simp [DataW.weights, DataW.weightsEach, Try.underlying72, hm])⟩, ?_⟩
  have t_ : Meas.blk a0 ≤ Rows.uptoBulk y0.1 ∧ Meas.blk a1 ≤ Rows.uptoBulk y1.1 ∧ Meas.blk a2 ≤ Rows.uptoBulk y2.1 ∧ Meas.blk a3 ≤ Rows.uptoBulk y3.1 ∧ Meas.blk a4 ≤ Rows.uptoBulk y4.1 ∧ Meas.blk a5 ≤ Rows.uptoBulk y5.1 ∧ Meas.blk a6 ≤ Rows.uptoBulk y6.1 := ⟨b0, b1, b2, b3, b4, b5, b6⟩
  show 1 + 1 + 1 + 1 + Meas.blk a3 + Meas.blk a4 + Meas.blk a5 + Meas.blk a6 ≤ _
  have z0 : 1 ≤ Rows.uptoBulk y0.1 := b0
  have z1 : 1 ≤ Rows.uptoBulk y1.1 := b1
  have z2 : 1 ≤ Rows.uptoBulk y2.1 := b2
  simp only [Rows.uptoBulk, Rows.uptoBulkAll, List.map_cons, List.map_nil]
  omega

instance : Meas RO where
  bytes := 64
  fits M x := True
  blk x := 1 + 1 + 1 + 1 + 1 + 1 + 1 + 3
instance : Inhabited RO := ⟨⟨default, default, default, default, default, default, default⟩⟩
theorem opens_RO : Opens RO Try.prog 146 := by
  refine ⟨by kernel_rfl, by kernel_rfl, by decide, ?_⟩
  intro H enc w spare held fuel cs x h
  obtain ⟨xs, n, -, rfl, hl, hxl, hf⟩ := DataW.trod_struct Try.underlying146 h
  have hl1 : cs.length = 7 + 1 := hl.trans (by kernel_rfl)
  have hx1 : xs.length = 6 + 1 := hxl
  obtain ⟨c0, r0, rfl, hl2⟩ := lenS hl1
  obtain ⟨c1, r1, rfl, hl3⟩ := lenS hl2
  obtain ⟨c2, r2, rfl, hl4⟩ := lenS hl3
  obtain ⟨c3, r3, rfl, hl5⟩ := lenS hl4
  obtain ⟨c4, r4, rfl, hl6⟩ := lenS hl5
  obtain ⟨c5, r5, rfl, hl7⟩ := lenS hl6
  obtain ⟨c6, r6, rfl, hl8⟩ := lenS hl7
  obtain ⟨c7, rfl⟩ := len1 hl8
  obtain ⟨y0, s0, rfl, hx2⟩ := lenS hx1
  obtain ⟨y1, s1, rfl, hx3⟩ := lenS hx2
  obtain ⟨y2, s2, rfl, hx4⟩ := lenS hx3
  obtain ⟨y3, s3, rfl, hx5⟩ := lenS hx4
  obtain ⟨y4, s4, rfl, hx6⟩ := lenS hx5
  obtain ⟨y5, s5, rfl, hx7⟩ := lenS hx6
  obtain ⟨y6, rfl⟩ := len1 hx7
  have g0 : DataW.trod enc Try.prog w 0 spare held n 3 (([c0, c1, c2, c3, c4, c5, c6, c7].drop 0).take (Try.prog.cellsOf 3)) = some y0 := hf 0 _ rfl
  have g1 : DataW.trod enc Try.prog w 0 spare held n 3 (([c0, c1, c2, c3, c4, c5, c6, c7].drop 1).take (Try.prog.cellsOf 3)) = some y1 := hf 1 _ rfl
  have g2 : DataW.trod enc Try.prog w 0 spare held n 3 (([c0, c1, c2, c3, c4, c5, c6, c7].drop 2).take (Try.prog.cellsOf 3)) = some y2 := hf 2 _ rfl
  have g3 : DataW.trod enc Try.prog w 0 spare held n 3 (([c0, c1, c2, c3, c4, c5, c6, c7].drop 3).take (Try.prog.cellsOf 3)) = some y3 := hf 3 _ rfl
  have g4 : DataW.trod enc Try.prog w 0 spare held n 3 (([c0, c1, c2, c3, c4, c5, c6, c7].drop 4).take (Try.prog.cellsOf 3)) = some y4 := hf 4 _ rfl
  have g5 : DataW.trod enc Try.prog w 0 spare held n 3 (([c0, c1, c2, c3, c4, c5, c6, c7].drop 5).take (Try.prog.cellsOf 3)) = some y5 := hf 5 _ rfl
  have g6 : DataW.trod enc Try.prog w 0 spare held n 23 (([c0, c1, c2, c3, c4, c5, c6, c7].drop 6).take (Try.prog.cellsOf 23)) = some y6 := hf 6 _ rfl
  rw [show Try.prog.cellsOf 3 = 1 from opens_Int.2.1] at g0
  obtain ⟨a0, q0, f0, b0⟩ := opens_Int.2.2.2 _ _ _ _ _ _ _ _ g0
  obtain ⟨e0, i0⟩ := q0
  injection e0 with e0; subst e0
  rw [show Try.prog.cellsOf 3 = 1 from opens_Int.2.1] at g1
  obtain ⟨a1, q1, f1, b1⟩ := opens_Int.2.2.2 _ _ _ _ _ _ _ _ g1
  obtain ⟨e1, i1⟩ := q1
  injection e1 with e1; subst e1
  rw [show Try.prog.cellsOf 3 = 1 from opens_Int.2.1] at g2
  obtain ⟨a2, q2, f2, b2⟩ := opens_Int.2.2.2 _ _ _ _ _ _ _ _ g2
  obtain ⟨e2, i2⟩ := q2
  injection e2 with e2; subst e2
  rw [show Try.prog.cellsOf 3 = 1 from opens_Int.2.1] at g3
  obtain ⟨a3, q3, f3, b3⟩ := opens_Int.2.2.2 _ _ _ _ _ _ _ _ g3
  obtain ⟨e3, i3⟩ := q3
  injection e3 with e3; subst e3
  rw [show Try.prog.cellsOf 3 = 1 from opens_Int.2.1] at g4
  obtain ⟨a4, q4, f4, b4⟩ := opens_Int.2.2.2 _ _ _ _ _ _ _ _ g4
  obtain ⟨e4, i4⟩ := q4
  injection e4 with e4; subst e4
  rw [show Try.prog.cellsOf 3 = 1 from opens_Int.2.1] at g5
  obtain ⟨a5, q5, f5, b5⟩ := opens_Int.2.2.2 _ _ _ _ _ _ _ _ g5
  obtain ⟨e5, i5⟩ := q5
  injection e5 with e5; subst e5
  rw [show Try.prog.cellsOf 23 = 2 from opens_P_Val.2.1] at g6
  obtain ⟨a6, q6, f6, b6⟩ := opens_P_Val.2.2.2 _ _ _ _ _ _ _ _ g6
  obtain ⟨e6, i6⟩ := q6
  injection e6 with e6 k6; injection k6 with k6; subst e6 k6
  refine ⟨⟨a0, a1, a2, a3, a4, a5, a6⟩, ⟨rfl, i0, i1, i2, i3, i4, i5, i6.1, i6.2⟩, fun M hM => trivial, ?_⟩
  have t_ : Meas.blk a0 ≤ Rows.uptoBulk y0.1 ∧ Meas.blk a1 ≤ Rows.uptoBulk y1.1 ∧ Meas.blk a2 ≤ Rows.uptoBulk y2.1 ∧ Meas.blk a3 ≤ Rows.uptoBulk y3.1 ∧ Meas.blk a4 ≤ Rows.uptoBulk y4.1 ∧ Meas.blk a5 ≤ Rows.uptoBulk y5.1 ∧ Meas.blk a6 ≤ Rows.uptoBulk y6.1 := ⟨b0, b1, b2, b3, b4, b5, b6⟩
  show 1 + 1 + 1 + 1 + 1 + 1 + 1 + 3 ≤ _
  have z0 : 1 ≤ Rows.uptoBulk y0.1 := b0
  have z1 : 1 ≤ Rows.uptoBulk y1.1 := b1
  have z2 : 1 ≤ Rows.uptoBulk y2.1 := b2
  have z3 : 1 ≤ Rows.uptoBulk y3.1 := b3
  have z4 : 1 ≤ Rows.uptoBulk y4.1 := b4
  have z5 : 1 ≤ Rows.uptoBulk y5.1 := b5
  have z6 : 3 ≤ Rows.uptoBulk y6.1 := b6
  simp only [Rows.uptoBulk, Rows.uptoBulkAll, List.map_cons, List.map_nil]
  omega
theorem opens_RO_l : Opens (List RO) Try.prog 97 := opens_list Try.underlying97 (by kernel_rfl) (by kernel_rfl) opens_RO

theorem opens_P_RPlace : Opens (Int × Int) Try.prog 90 := by
  refine ⟨by kernel_rfl, by kernel_rfl, by decide, ?_⟩
  intro H enc w spare held fuel cs x h
  obtain ⟨xs, n, -, rfl, hl, hxl, hf⟩ := DataW.trod_struct Try.underlying90 h
  have hl' : cs.length = 1 + 1 := hl.trans (by kernel_rfl)
  have hxl' : xs.length = 1 + 1 := hxl
  obtain ⟨c0, r, rfl, hl2⟩ := lenS hl'
  obtain ⟨c1, rfl⟩ := len1 hl2
  obtain ⟨y0, s, rfl, hxl2⟩ := lenS hxl'
  obtain ⟨y1, rfl⟩ := len1 hxl2
  have g0 : DataW.trod enc Try.prog w 0 spare held n 3 (([c0, c1].drop 0).take (Try.prog.cellsOf 3)) = some y0 := hf 0 _ rfl
  have g1 : DataW.trod enc Try.prog w 0 spare held n 3 (([c0, c1].drop 1).take (Try.prog.cellsOf 3)) = some y1 := hf 1 _ rfl
  rw [show Try.prog.cellsOf 3 = 1 from opens_Int.2.1] at g0 g1
  obtain ⟨a0, ⟨e0, i0⟩, -, -⟩ := opens_Int.2.2.2 _ _ _ _ _ _ _ _ g0
  obtain ⟨a1, ⟨e1, i1⟩, -, -⟩ := opens_Int.2.2.2 _ _ _ _ _ _ _ _ g1
  injection e0 with e0; subst e0
  injection e1 with e1; subst e1
  refine ⟨(a0, a1), ⟨rfl, i0, i1⟩, fun _ _ => trivial, ?_⟩
  have b0 := bulk_pos y0.1
  have b1 := bulk_pos y1.1
  simp only [Meas.blk, Rows.uptoBulk, Rows.uptoBulkAll, List.map_cons, List.map_nil]
  omega
theorem opens_P_RPlace_l : Opens (List (Int × Int)) Try.prog 83 := opens_list Try.underlying83 (by kernel_rfl) (by kernel_rfl) opens_P_RPlace

theorem opens_T3 : Opens (Int × Int × Int) Try.prog 186 := by
  refine ⟨by kernel_rfl, by kernel_rfl, by decide, ?_⟩
  intro H enc w spare held fuel cs x h
  obtain ⟨xs, n, -, rfl, hl, hxl, hf⟩ := DataW.trod_struct Try.underlying186 h
  have hl' : cs.length = 2 + 1 := hl.trans (by kernel_rfl)
  have hxl' : xs.length = 1 + 1 := hxl
  obtain ⟨c0, r, rfl, hl2⟩ := lenS hl'
  obtain ⟨c1, r2, rfl, hl3⟩ := lenS hl2
  obtain ⟨c2, rfl⟩ := len1 hl3
  obtain ⟨y0, s, rfl, hxl2⟩ := lenS hxl'
  obtain ⟨y1, rfl⟩ := len1 hxl2
  have g0 : DataW.trod enc Try.prog w 0 spare held n 3 (([c0, c1, c2].drop 0).take (Try.prog.cellsOf 3)) = some y0 := hf 0 _ rfl
  have g1 : DataW.trod enc Try.prog w 0 spare held n 90 (([c0, c1, c2].drop 1).take (Try.prog.cellsOf 90)) = some y1 := hf 1 _ rfl
  rw [show Try.prog.cellsOf 3 = 1 from opens_Int.2.1] at g0
  rw [show Try.prog.cellsOf 90 = 2 from opens_P_RPlace.2.1] at g1
  obtain ⟨a0, ⟨e0, i0⟩, -, -⟩ := opens_Int.2.2.2 _ _ _ _ _ _ _ _ g0
  obtain ⟨a1, ⟨e1, i1⟩, -, b1⟩ := opens_P_RPlace.2.2.2 _ _ _ _ _ _ _ _ g1
  injection e0 with e0; subst e0
  injection e1 with e1 e2; injection e2 with e2; subst e1 e2
  refine ⟨(a0, a1), ⟨rfl, i0, i1.1, i1.2⟩, fun _ _ => trivial, ?_⟩
  have b0 := bulk_pos y0.1
  simp only [Meas.blk, Rows.uptoBulk, Rows.uptoBulkAll, List.map_cons, List.map_nil] at b1 ⊢
  omega
theorem opens_T3_l : Opens (List (Int × Int × Int)) Try.prog 99 := opens_list Try.underlying99 (by kernel_rfl) (by kernel_rfl) opens_T3

instance : Meas RM where
  bytes := 56
  fits M x := Meas.fits M x.vals
  blk x := 1 + 3 + 1 + 1 + Meas.blk x.vals
instance : Inhabited RM := ⟨⟨default, default, default, default⟩⟩
theorem opens_RM : Opens RM Try.prog 189 := by
  refine ⟨by kernel_rfl, by kernel_rfl, by decide, ?_⟩
  intro H enc w spare held fuel cs x h
  obtain ⟨xs, n, -, rfl, hl, hxl, hf⟩ := DataW.trod_struct Try.underlying189 h
  have hl1 : cs.length = 4 + 1 := hl.trans (by kernel_rfl)
  have hx1 : xs.length = 3 + 1 := hxl
  obtain ⟨c0, r0, rfl, hl2⟩ := lenS hl1
  obtain ⟨c1, r1, rfl, hl3⟩ := lenS hl2
  obtain ⟨c2, r2, rfl, hl4⟩ := lenS hl3
  obtain ⟨c3, r3, rfl, hl5⟩ := lenS hl4
  obtain ⟨c4, rfl⟩ := len1 hl5
  obtain ⟨y0, s0, rfl, hx2⟩ := lenS hx1
  obtain ⟨y1, s1, rfl, hx3⟩ := lenS hx2
  obtain ⟨y2, s2, rfl, hx4⟩ := lenS hx3
  obtain ⟨y3, rfl⟩ := len1 hx4
  have g0 : DataW.trod enc Try.prog w 0 spare held n 90 (([c0, c1, c2, c3, c4].drop 0).take (Try.prog.cellsOf 90)) = some y0 := hf 0 _ rfl
  have g1 : DataW.trod enc Try.prog w 0 spare held n 3 (([c0, c1, c2, c3, c4].drop 2).take (Try.prog.cellsOf 3)) = some y1 := hf 1 _ rfl
  have g2 : DataW.trod enc Try.prog w 0 spare held n 3 (([c0, c1, c2, c3, c4].drop 3).take (Try.prog.cellsOf 3)) = some y2 := hf 2 _ rfl
  have g3 : DataW.trod enc Try.prog w 0 spare held n 83 (([c0, c1, c2, c3, c4].drop 4).take (Try.prog.cellsOf 83)) = some y3 := hf 3 _ rfl
  rw [show Try.prog.cellsOf 90 = 2 from opens_P_RPlace.2.1] at g0
  obtain ⟨a0, q0, f0, b0⟩ := opens_P_RPlace.2.2.2 _ _ _ _ _ _ _ _ g0
  obtain ⟨e0, i0⟩ := q0
  injection e0 with e0 k0; injection k0 with k0; subst e0 k0
  rw [show Try.prog.cellsOf 3 = 1 from opens_Int.2.1] at g1
  obtain ⟨a1, q1, f1, b1⟩ := opens_Int.2.2.2 _ _ _ _ _ _ _ _ g1
  obtain ⟨e1, i1⟩ := q1
  injection e1 with e1; subst e1
  rw [show Try.prog.cellsOf 3 = 1 from opens_Int.2.1] at g2
  obtain ⟨a2, q2, f2, b2⟩ := opens_Int.2.2.2 _ _ _ _ _ _ _ _ g2
  obtain ⟨e2, i2⟩ := q2
  injection e2 with e2; subst e2
  rw [show Try.prog.cellsOf 83 = 1 from opens_P_RPlace_l.2.1] at g3
  obtain ⟨a3, q3, f3, b3⟩ := opens_P_RPlace_l.2.2.2 _ _ _ _ _ _ _ _ g3
  refine ⟨⟨a0, a1, a2, a3⟩, ⟨c4, rfl, i0.1, i0.2, i1, i2, q3⟩, fun M hM => f3 M fun m hm => hM m (by simp [DataW.weights, DataW.weightsEach, Try.underlying189, hm]), ?_⟩
  have t_ : Meas.blk a0 ≤ Rows.uptoBulk y0.1 ∧ Meas.blk a1 ≤ Rows.uptoBulk y1.1 ∧ Meas.blk a2 ≤ Rows.uptoBulk y2.1 ∧ Meas.blk a3 ≤ Rows.uptoBulk y3.1 := ⟨b0, b1, b2, b3⟩
  show 1 + 3 + 1 + 1 + Meas.blk a3 ≤ _
  have z0 : 3 ≤ Rows.uptoBulk y0.1 := b0
  have z1 : 1 ≤ Rows.uptoBulk y1.1 := b1
  have z2 : 1 ≤ Rows.uptoBulk y2.1 := b2
  simp only [Rows.uptoBulk, Rows.uptoBulkAll, List.map_cons, List.map_nil]
  omega
theorem opens_RM_l : Opens (List RM) Try.prog 100 := opens_list Try.underlying100 (by kernel_rfl) (by kernel_rfl) opens_RM

instance : Meas RE where
  bytes := 64
  fits M x := Meas.fits M x.sets ∧ Meas.fits M x.makes
  blk x := 1 + 1 + 1 + Meas.blk x.sets + Meas.blk x.makes
instance : Inhabited RE := ⟨⟨default, default, default, default⟩⟩
theorem opens_RE : Opens RE Try.prog 102 := by
  refine ⟨by kernel_rfl, by kernel_rfl, by decide, ?_⟩
  intro H enc w spare held fuel cs x h
  obtain ⟨xs, n, -, rfl, hl, hxl, hf⟩ := DataW.trod_struct Try.underlying102 h
  have hl1 : cs.length = 3 + 1 := hl.trans (by kernel_rfl)
  have hx1 : xs.length = 3 + 1 := hxl
  obtain ⟨c0, r0, rfl, hl2⟩ := lenS hl1
  obtain ⟨c1, r1, rfl, hl3⟩ := lenS hl2
  obtain ⟨c2, r2, rfl, hl4⟩ := lenS hl3
  obtain ⟨c3, rfl⟩ := len1 hl4
  obtain ⟨y0, s0, rfl, hx2⟩ := lenS hx1
  obtain ⟨y1, s1, rfl, hx3⟩ := lenS hx2
  obtain ⟨y2, s2, rfl, hx4⟩ := lenS hx3
  obtain ⟨y3, rfl⟩ := len1 hx4
  have g0 : DataW.trod enc Try.prog w 0 spare held n 3 (([c0, c1, c2, c3].drop 0).take (Try.prog.cellsOf 3)) = some y0 := hf 0 _ rfl
  have g1 : DataW.trod enc Try.prog w 0 spare held n 3 (([c0, c1, c2, c3].drop 1).take (Try.prog.cellsOf 3)) = some y1 := hf 1 _ rfl
  have g2 : DataW.trod enc Try.prog w 0 spare held n 99 (([c0, c1, c2, c3].drop 2).take (Try.prog.cellsOf 99)) = some y2 := hf 2 _ rfl
  have g3 : DataW.trod enc Try.prog w 0 spare held n 100 (([c0, c1, c2, c3].drop 3).take (Try.prog.cellsOf 100)) = some y3 := hf 3 _ rfl
  rw [show Try.prog.cellsOf 3 = 1 from opens_Int.2.1] at g0
  obtain ⟨a0, q0, f0, b0⟩ := opens_Int.2.2.2 _ _ _ _ _ _ _ _ g0
  obtain ⟨e0, i0⟩ := q0
  injection e0 with e0; subst e0
  rw [show Try.prog.cellsOf 3 = 1 from opens_Int.2.1] at g1
  obtain ⟨a1, q1, f1, b1⟩ := opens_Int.2.2.2 _ _ _ _ _ _ _ _ g1
  obtain ⟨e1, i1⟩ := q1
  injection e1 with e1; subst e1
  rw [show Try.prog.cellsOf 99 = 1 from opens_T3_l.2.1] at g2
  obtain ⟨a2, q2, f2, b2⟩ := opens_T3_l.2.2.2 _ _ _ _ _ _ _ _ g2
  rw [show Try.prog.cellsOf 100 = 1 from opens_RM_l.2.1] at g3
  obtain ⟨a3, q3, f3, b3⟩ := opens_RM_l.2.2.2 _ _ _ _ _ _ _ _ g3
  refine ⟨⟨a0, a1, a2, a3⟩, ⟨c2, c3, rfl, i0, i1, q2, q3⟩, fun M hM => ⟨f2 M fun m hm => hM m (by simp [DataW.weights, DataW.weightsEach, Try.underlying102, hm]), f3 M fun m hm => hM m (by simp [DataW.weights, DataW.weightsEach, Try.underlying102, hm])⟩, ?_⟩
  have t_ : Meas.blk a0 ≤ Rows.uptoBulk y0.1 ∧ Meas.blk a1 ≤ Rows.uptoBulk y1.1 ∧ Meas.blk a2 ≤ Rows.uptoBulk y2.1 ∧ Meas.blk a3 ≤ Rows.uptoBulk y3.1 := ⟨b0, b1, b2, b3⟩
  show 1 + 1 + 1 + Meas.blk a2 + Meas.blk a3 ≤ _
  have z0 : 1 ≤ Rows.uptoBulk y0.1 := b0
  have z1 : 1 ≤ Rows.uptoBulk y1.1 := b1
  simp only [Rows.uptoBulk, Rows.uptoBulkAll, List.map_cons, List.map_nil]
  omega
theorem opens_RE_l : Opens (List RE) Try.prog 98 := opens_list Try.underlying98 (by kernel_rfl) (by kernel_rfl) opens_RE

instance : Meas RC where
  bytes := 208
  fits M x := Meas.fits M x.orders ∧ Meas.fits M x.exits ∧ Meas.fits M x.turn ∧ Meas.fits M x.back
  blk x := 1 + 1 + 1 + 1 + 1 + Meas.blk x.orders + Meas.blk x.exits + Meas.blk x.turn + Meas.blk x.back
instance : Inhabited RC := ⟨⟨default, default, default, default, default, default, default, default⟩⟩
theorem opens_RC : Opens RC Try.prog 104 := by
  refine ⟨by kernel_rfl, by kernel_rfl, by decide, ?_⟩
  intro H enc w spare held fuel cs x h
  obtain ⟨xs, n, -, rfl, hl, hxl, hf⟩ := DataW.trod_struct Try.underlying104 h
  have hl1 : cs.length = 13 + 1 := hl.trans (by kernel_rfl)
  have hx1 : xs.length = 7 + 1 := hxl
  obtain ⟨c0, r0, rfl, hl2⟩ := lenS hl1
  obtain ⟨c1, r1, rfl, hl3⟩ := lenS hl2
  obtain ⟨c2, r2, rfl, hl4⟩ := lenS hl3
  obtain ⟨c3, r3, rfl, hl5⟩ := lenS hl4
  obtain ⟨c4, r4, rfl, hl6⟩ := lenS hl5
  obtain ⟨c5, r5, rfl, hl7⟩ := lenS hl6
  obtain ⟨c6, r6, rfl, hl8⟩ := lenS hl7
  obtain ⟨c7, r7, rfl, hl9⟩ := lenS hl8
  obtain ⟨c8, r8, rfl, hl10⟩ := lenS hl9
  obtain ⟨c9, r9, rfl, hl11⟩ := lenS hl10
  obtain ⟨c10, r10, rfl, hl12⟩ := lenS hl11
  obtain ⟨c11, r11, rfl, hl13⟩ := lenS hl12
  obtain ⟨c12, r12, rfl, hl14⟩ := lenS hl13
  obtain ⟨c13, rfl⟩ := len1 hl14
  obtain ⟨y0, s0, rfl, hx2⟩ := lenS hx1
  obtain ⟨y1, s1, rfl, hx3⟩ := lenS hx2
  obtain ⟨y2, s2, rfl, hx4⟩ := lenS hx3
  obtain ⟨y3, s3, rfl, hx5⟩ := lenS hx4
  obtain ⟨y4, s4, rfl, hx6⟩ := lenS hx5
  obtain ⟨y5, s5, rfl, hx7⟩ := lenS hx6
  obtain ⟨y6, s6, rfl, hx8⟩ := lenS hx7
  obtain ⟨y7, rfl⟩ := len1 hx8
  have g0 : DataW.trod enc Try.prog w 0 spare held n 3 (([c0, c1, c2, c3, c4, c5, c6, c7, c8, c9, c10, c11, c12, c13].drop 0).take (Try.prog.cellsOf 3)) = some y0 := hf 0 _ rfl
  have g1 : DataW.trod enc Try.prog w 0 spare held n 3 (([c0, c1, c2, c3, c4, c5, c6, c7, c8, c9, c10, c11, c12, c13].drop 1).take (Try.prog.cellsOf 3)) = some y1 := hf 1 _ rfl
  have g2 : DataW.trod enc Try.prog w 0 spare held n 3 (([c0, c1, c2, c3, c4, c5, c6, c7, c8, c9, c10, c11, c12, c13].drop 2).take (Try.prog.cellsOf 3)) = some y2 := hf 2 _ rfl
  have g3 : DataW.trod enc Try.prog w 0 spare held n 3 (([c0, c1, c2, c3, c4, c5, c6, c7, c8, c9, c10, c11, c12, c13].drop 3).take (Try.prog.cellsOf 3)) = some y3 := hf 3 _ rfl
  have g4 : DataW.trod enc Try.prog w 0 spare held n 97 (([c0, c1, c2, c3, c4, c5, c6, c7, c8, c9, c10, c11, c12, c13].drop 4).take (Try.prog.cellsOf 97)) = some y4 := hf 4 _ rfl
  have g5 : DataW.trod enc Try.prog w 0 spare held n 98 (([c0, c1, c2, c3, c4, c5, c6, c7, c8, c9, c10, c11, c12, c13].drop 5).take (Try.prog.cellsOf 98)) = some y5 := hf 5 _ rfl
  have g6 : DataW.trod enc Try.prog w 0 spare held n 102 (([c0, c1, c2, c3, c4, c5, c6, c7, c8, c9, c10, c11, c12, c13].drop 6).take (Try.prog.cellsOf 102)) = some y6 := hf 6 _ rfl
  have g7 : DataW.trod enc Try.prog w 0 spare held n 102 (([c0, c1, c2, c3, c4, c5, c6, c7, c8, c9, c10, c11, c12, c13].drop 10).take (Try.prog.cellsOf 102)) = some y7 := hf 7 _ rfl
  rw [show Try.prog.cellsOf 3 = 1 from opens_Int.2.1] at g0
  obtain ⟨a0, q0, f0, b0⟩ := opens_Int.2.2.2 _ _ _ _ _ _ _ _ g0
  obtain ⟨e0, i0⟩ := q0
  injection e0 with e0; subst e0
  rw [show Try.prog.cellsOf 3 = 1 from opens_Int.2.1] at g1
  obtain ⟨a1, q1, f1, b1⟩ := opens_Int.2.2.2 _ _ _ _ _ _ _ _ g1
  obtain ⟨e1, i1⟩ := q1
  injection e1 with e1; subst e1
  rw [show Try.prog.cellsOf 3 = 1 from opens_Int.2.1] at g2
  obtain ⟨a2, q2, f2, b2⟩ := opens_Int.2.2.2 _ _ _ _ _ _ _ _ g2
  obtain ⟨e2, i2⟩ := q2
  injection e2 with e2; subst e2
  rw [show Try.prog.cellsOf 3 = 1 from opens_Int.2.1] at g3
  obtain ⟨a3, q3, f3, b3⟩ := opens_Int.2.2.2 _ _ _ _ _ _ _ _ g3
  obtain ⟨e3, i3⟩ := q3
  injection e3 with e3; subst e3
  rw [show Try.prog.cellsOf 97 = 1 from opens_RO_l.2.1] at g4
  obtain ⟨a4, q4, f4, b4⟩ := opens_RO_l.2.2.2 _ _ _ _ _ _ _ _ g4
  rw [show Try.prog.cellsOf 98 = 1 from opens_RE_l.2.1] at g5
  obtain ⟨a5, q5, f5, b5⟩ := opens_RE_l.2.2.2 _ _ _ _ _ _ _ _ g5
  rw [show Try.prog.cellsOf 102 = 4 from opens_RE.2.1] at g6
  obtain ⟨a6, q6, f6, b6⟩ := opens_RE.2.2.2 _ _ _ _ _ _ _ _ g6
  rw [show Try.prog.cellsOf 102 = 4 from opens_RE.2.1] at g7
  obtain ⟨a7, q7, f7, b7⟩ := opens_RE.2.2.2 _ _ _ _ _ _ _ _ g7
  refine ⟨⟨a0, a1, a2, a3, a4, a5, a6, a7⟩, ⟨c4, c5, [c6, c7, c8, c9], [c10, c11, c12, c13], rfl, i0, i1, i2, i3, q4, q5, q6, q7⟩, fun M hM => ⟨f4 M fun m hm => hM m (by simp [DataW.weights, DataW.weightsEach, Try.underlying104, hm]), f5 M fun m hm => hM m (by simp [DataW.weights, DataW.weightsEach, Try.underlying104, hm]), f6 M fun m hm => hM m (by simp [DataW.weights, DataW.weightsEach, Try.underlying104, hm]), f7 M fun m hm => hM m (by simp [DataW.weights, DataW.weightsEach, Try.underlying104, hm])⟩, ?_⟩
  have t_ : Meas.blk a0 ≤ Rows.uptoBulk y0.1 ∧ Meas.blk a1 ≤ Rows.uptoBulk y1.1 ∧ Meas.blk a2 ≤ Rows.uptoBulk y2.1 ∧ Meas.blk a3 ≤ Rows.uptoBulk y3.1 ∧ Meas.blk a4 ≤ Rows.uptoBulk y4.1 ∧ Meas.blk a5 ≤ Rows.uptoBulk y5.1 ∧ Meas.blk a6 ≤ Rows.uptoBulk y6.1 ∧ Meas.blk a7 ≤ Rows.uptoBulk y7.1 := ⟨b0, b1, b2, b3, b4, b5, b6, b7⟩
  show 1 + 1 + 1 + 1 + 1 + Meas.blk a4 + Meas.blk a5 + Meas.blk a6 + Meas.blk a7 ≤ _
  have z0 : 1 ≤ Rows.uptoBulk y0.1 := b0
  have z1 : 1 ≤ Rows.uptoBulk y1.1 := b1
  have z2 : 1 ≤ Rows.uptoBulk y2.1 := b2
  have z3 : 1 ≤ Rows.uptoBulk y3.1 := b3
  simp only [Rows.uptoBulk, Rows.uptoBulkAll, List.map_cons, List.map_nil]
  omega

theorem opens_P_RMove : Opens (Int × Int) Try.prog 62 := by
  refine ⟨by kernel_rfl, by kernel_rfl, by decide, ?_⟩
  intro H enc w spare held fuel cs x h
  obtain ⟨xs, n, -, rfl, hl, hxl, hf⟩ := DataW.trod_struct Try.underlying62 h
  have hl' : cs.length = 1 + 1 := hl.trans (by kernel_rfl)
  have hxl' : xs.length = 1 + 1 := hxl
  obtain ⟨c0, r, rfl, hl2⟩ := lenS hl'
  obtain ⟨c1, rfl⟩ := len1 hl2
  obtain ⟨y0, s, rfl, hxl2⟩ := lenS hxl'
  obtain ⟨y1, rfl⟩ := len1 hxl2
  have g0 : DataW.trod enc Try.prog w 0 spare held n 3 (([c0, c1].drop 0).take (Try.prog.cellsOf 3)) = some y0 := hf 0 _ rfl
  have g1 : DataW.trod enc Try.prog w 0 spare held n 3 (([c0, c1].drop 1).take (Try.prog.cellsOf 3)) = some y1 := hf 1 _ rfl
  rw [show Try.prog.cellsOf 3 = 1 from opens_Int.2.1] at g0 g1
  obtain ⟨a0, ⟨e0, i0⟩, -, -⟩ := opens_Int.2.2.2 _ _ _ _ _ _ _ _ g0
  obtain ⟨a1, ⟨e1, i1⟩, -, -⟩ := opens_Int.2.2.2 _ _ _ _ _ _ _ _ g1
  injection e0 with e0; subst e0
  injection e1 with e1; subst e1
  refine ⟨(a0, a1), ⟨rfl, i0, i1⟩, fun _ _ => trivial, ?_⟩
  have b0 := bulk_pos y0.1
  have b1 := bulk_pos y1.1
  simp only [Meas.blk, Rows.uptoBulk, Rows.uptoBulkAll, List.map_cons, List.map_nil]
  omega
theorem opens_P_RMove_l : Opens (List (Int × Int)) Try.prog 56 := opens_list Try.underlying56 (by kernel_rfl) (by kernel_rfl) opens_P_RMove

theorem opens_P_RSpan : Opens (Int × Int) Try.prog 78 := by
  refine ⟨by kernel_rfl, by kernel_rfl, by decide, ?_⟩
  intro H enc w spare held fuel cs x h
  obtain ⟨xs, n, -, rfl, hl, hxl, hf⟩ := DataW.trod_struct Try.underlying78 h
  have hl' : cs.length = 1 + 1 := hl.trans (by kernel_rfl)
  have hxl' : xs.length = 1 + 1 := hxl
  obtain ⟨c0, r, rfl, hl2⟩ := lenS hl'
  obtain ⟨c1, rfl⟩ := len1 hl2
  obtain ⟨y0, s, rfl, hxl2⟩ := lenS hxl'
  obtain ⟨y1, rfl⟩ := len1 hxl2
  have g0 : DataW.trod enc Try.prog w 0 spare held n 3 (([c0, c1].drop 0).take (Try.prog.cellsOf 3)) = some y0 := hf 0 _ rfl
  have g1 : DataW.trod enc Try.prog w 0 spare held n 3 (([c0, c1].drop 1).take (Try.prog.cellsOf 3)) = some y1 := hf 1 _ rfl
  rw [show Try.prog.cellsOf 3 = 1 from opens_Int.2.1] at g0 g1
  obtain ⟨a0, ⟨e0, i0⟩, -, -⟩ := opens_Int.2.2.2 _ _ _ _ _ _ _ _ g0
  obtain ⟨a1, ⟨e1, i1⟩, -, -⟩ := opens_Int.2.2.2 _ _ _ _ _ _ _ _ g1
  injection e0 with e0; subst e0
  injection e1 with e1; subst e1
  refine ⟨(a0, a1), ⟨rfl, i0, i1⟩, fun _ _ => trivial, ?_⟩
  have b0 := bulk_pos y0.1
  have b1 := bulk_pos y1.1
  simp only [Meas.blk, Rows.uptoBulk, Rows.uptoBulkAll, List.map_cons, List.map_nil]
  omega
theorem opens_P_RSpan_l : Opens (List (Int × Int)) Try.prog 74 := opens_list Try.underlying74 (by kernel_rfl) (by kernel_rfl) opens_P_RSpan

end Go.Proofs.Ytljdnadejmkaeaa
