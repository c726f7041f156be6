/-
  The types of this seat's arguments, opened (printed by genopen.py).
-/
import Derived.Test.YtpkccpegdpodoaaOpens
namespace Go.Proofs.Ytpkccpegdpodoaa
open Go.RowKit Go.ChangeShapes Go.WideShapes Go.Deep

theorem opens_Int : Opens Int Try.prog 3 := opens_int Try.underlying3 (by kernel_rfl) (by kernel_rfl)

theorem opens_P_Val : Opens (Int × Int) Try.prog 23 := by
  refine ⟨by kernel_rfl, by kernel_rfl, by decide, ?_⟩
  intro H enc w spare held fuel cs x h
  obtain ⟨xs, n, -, rfl, hl, hxl, hf⟩ := DataW.trod_struct Try.underlying23 h
  have hl' : cs.length = 1 + 1 := hl.trans (by kernel_rfl)
  have hxl' : xs.length = 1 + 1 := hxl
  obtain ⟨c0, r, rfl, hl2⟩ := lenS hl'
  obtain ⟨c1, rfl⟩ := len1 hl2
  obtain ⟨y0, s, rfl, hxl2⟩ := lenS hxl'
  obtain ⟨y1, rfl⟩ := len1 hxl2
  have g0 : DataW.trod enc Try.prog w 0 spare held n 3 (([c0, c1].drop 0).take (Try.prog.cellsOf 3)) = some y0 := hf 0 _ rfl
  have g1 : DataW.trod enc Try.prog w 0 spare held n 3 (([c0, c1].drop 1).take (Try.prog.cellsOf 3)) = some y1 := hf 1 _ rfl
  rw [show Try.prog.cellsOf 3 = 1 from opens_Int.2.1] at g0 g1
  obtain ⟨a0, ⟨e0, i0⟩, -, -⟩ := opens_Int.2.2.2 _ _ _ _ _ _ _ _ g0
  obtain ⟨a1, ⟨e1, i1⟩, -, -⟩ := opens_Int.2.2.2 _ _ _ _ _ _ _ _ g1
  injection e0 with e0; subst e0
  injection e1 with e1; subst e1
  refine ⟨(a0, a1), ⟨rfl, i0, i1⟩, fun _ _ => trivial, ?_⟩
  have b0 := bulk_pos y0.1
  have b1 := bulk_pos y1.1
  simp only [Meas.blk, Rows.uptoBulk, Rows.uptoBulkAll, List.map_cons, List.map_nil]
  omega
theorem opens_P_Val_l : Opens (List (Int × Int)) Try.prog 35 := opens_list Try.underlying35 (by kernel_rfl) (by kernel_rfl) opens_P_Val

theorem opens_P_Try : Opens (Int × Int) Try.prog 152 := by
  refine ⟨by kernel_rfl, by kernel_rfl, by decide, ?_⟩
  intro H enc w spare held fuel cs x h
  obtain ⟨xs, n, -, rfl, hl, hxl, hf⟩ := DataW.trod_struct Try.underlying152 h
  have hl' : cs.length = 1 + 1 := hl.trans (by kernel_rfl)
  have hxl' : xs.length = 1 + 1 := hxl
  obtain ⟨c0, r, rfl, hl2⟩ := lenS hl'
  obtain ⟨c1, rfl⟩ := len1 hl2
  obtain ⟨y0, s, rfl, hxl2⟩ := lenS hxl'
  obtain ⟨y1, rfl⟩ := len1 hxl2
  have g0 : DataW.trod enc Try.prog w 0 spare held n 3 (([c0, c1].drop 0).take (Try.prog.cellsOf 3)) = some y0 := hf 0 _ rfl
  have g1 : DataW.trod enc Try.prog w 0 spare held n 3 (([c0, c1].drop 1).take (Try.prog.cellsOf 3)) = some y1 := hf 1 _ rfl
  rw [show Try.prog.cellsOf 3 = 1 from opens_Int.2.1] at g0 g1
  obtain ⟨a0, ⟨e0, i0⟩, -, -⟩ := opens_Int.2.2.2 _ _ _ _ _ _ _ _ g0
  obtain ⟨a1, ⟨e1, i1⟩, -, -⟩ := opens_Int.2.2.2 _ _ _ _ _ _ _ _ g1
  injection e0 with e0; subst e0
  injection e1 with e1; subst e1
  refine ⟨(a0, a1), ⟨rfl, i0, i1⟩, fun _ _ => trivial, ?_⟩
  have b0 := bulk_pos y0.1
  have b1 := bulk_pos y1.1
  simp only [Meas.blk, Rows.uptoBulk, Rows.uptoBulkAll, List.map_cons, List.map_nil]
  omega
theorem opens_P_Try_l : Opens (List (Int × Int)) Try.prog 146 := opens_list Try.underlying146 (by kernel_rfl) (by kernel_rfl) opens_P_Try

instance : Meas Fr where
  bytes := 96
  fits M x := Meas.fits M x.regs ∧ Meas.fits M x.tries
  blk x := 1 + 1 + 1 + 1 + 1 + 3 + Meas.blk x.regs + Meas.blk x.tries
instance : Inhabited Fr := ⟨⟨default, default, default, default, default, default, default⟩⟩
theorem opens_Fr : Opens Fr Try.prog 148 := by
  refine ⟨by kernel_rfl, by kernel_rfl, by decide, ?_⟩
  intro H enc w spare held fuel cs x h
  obtain ⟨xs, n, -, rfl, hl, hxl, hf⟩ := DataW.trod_struct Try.underlying148 h
  have hl1 : cs.length = 7 + 1 := hl.trans (by kernel_rfl)
  have hx1 : xs.length = 6 + 1 := hxl
  obtain ⟨c0, r0, rfl, hl2⟩ := lenS hl1
  obtain ⟨c1, r1, rfl, hl3⟩ := lenS hl2
  obtain ⟨c2, r2, rfl, hl4⟩ := lenS hl3
  obtain ⟨c3, r3, rfl, hl5⟩ := lenS hl4
  obtain ⟨c4, r4, rfl, hl6⟩ := lenS hl5
  obtain ⟨c5, r5, rfl, hl7⟩ := lenS hl6
  obtain ⟨c6, r6, rfl, hl8⟩ := lenS hl7
  obtain ⟨c7, rfl⟩ := len1 hl8
  obtain ⟨y0, s0, rfl, hx2⟩ := lenS hx1
  obtain ⟨y1, s1, rfl, hx3⟩ := lenS hx2
  obtain ⟨y2, s2, rfl, hx4⟩ := lenS hx3
  obtain ⟨y3, s3, rfl, hx5⟩ := lenS hx4
  obtain ⟨y4, s4, rfl, hx6⟩ := lenS hx5
  obtain ⟨y5, s5, rfl, hx7⟩ := lenS hx6
  obtain ⟨y6, rfl⟩ := len1 hx7
  have g0 : DataW.trod enc Try.prog w 0 spare held n 3 (([c0, c1, c2, c3, c4, c5, c6, c7].drop 0).take (Try.prog.cellsOf 3)) = some y0 := hf 0 _ rfl
  have g1 : DataW.trod enc Try.prog w 0 spare held n 3 (([c0, c1, c2, c3, c4, c5, c6, c7].drop 1).take (Try.prog.cellsOf 3)) = some y1 := hf 1 _ rfl
  have g2 : DataW.trod enc Try.prog w 0 spare held n 3 (([c0, c1, c2, c3, c4, c5, c6, c7].drop 2).take (Try.prog.cellsOf 3)) = some y2 := hf 2 _ rfl
  have g3 : DataW.trod enc Try.prog w 0 spare held n 3 (([c0, c1, c2, c3, c4, c5, c6, c7].drop 3).take (Try.prog.cellsOf 3)) = some y3 := hf 3 _ rfl
  have g4 : DataW.trod enc Try.prog w 0 spare held n 23 (([c0, c1, c2, c3, c4, c5, c6, c7].drop 4).take (Try.prog.cellsOf 23)) = some y4 := hf 4 _ rfl
  have g5 : DataW.trod enc Try.prog w 0 spare held n 35 (([c0, c1, c2, c3, c4, c5, c6, c7].drop 6).take (Try.prog.cellsOf 35)) = some y5 := hf 5 _ rfl
  have g6 : DataW.trod enc Try.prog w 0 spare held n 146 (([c0, c1, c2, c3, c4, c5, c6, c7].drop 7).take (Try.prog.cellsOf 146)) = some y6 := hf 6 _ rfl
  rw [show Try.prog.cellsOf 3 = 1 from opens_Int.2.1] at g0
  obtain ⟨a0, q0, f0, b0⟩ := opens_Int.2.2.2 _ _ _ _ _ _ _ _ g0
  obtain ⟨e0, i0⟩ := q0
  injection e0 with e0; subst e0
  rw [show Try.prog.cellsOf 3 = 1 from opens_Int.2.1] at g1
  obtain ⟨a1, q1, f1, b1⟩ := opens_Int.2.2.2 _ _ _ _ _ _ _ _ g1
  obtain ⟨e1, i1⟩ := q1
  injection e1 with e1; subst e1
  rw [show Try.prog.cellsOf 3 = 1 from opens_Int.2.1] at g2
  obtain ⟨a2, q2, f2, b2⟩ := opens_Int.2.2.2 _ _ _ _ _ _ _ _ g2
  obtain ⟨e2, i2⟩ := q2
  injection e2 with e2; subst e2
  rw [show Try.prog.cellsOf 3 = 1 from opens_Int.2.1] at g3
  obtain ⟨a3, q3, f3, b3⟩ := opens_Int.2.2.2 _ _ _ _ _ _ _ _ g3
  obtain ⟨e3, i3⟩ := q3
  injection e3 with e3; subst e3
  rw [show Try.prog.cellsOf 23 = 2 from opens_P_Val.2.1] at g4
  obtain ⟨a4, q4, f4, b4⟩ := opens_P_Val.2.2.2 _ _ _ _ _ _ _ _ g4
  obtain ⟨e4, i4⟩ := q4
  injection e4 with e4 k4; injection k4 with k4; subst e4 k4
  rw [show Try.prog.cellsOf 35 = 1 from opens_P_Val_l.2.1] at g5
  obtain ⟨a5, q5, f5, b5⟩ := opens_P_Val_l.2.2.2 _ _ _ _ _ _ _ _ g5
  rw [show Try.prog.cellsOf 146 = 1 from opens_P_Try_l.2.1] at g6
  obtain ⟨a6, q6, f6, b6⟩ := opens_P_Try_l.2.2.2 _ _ _ _ _ _ _ _ g6
  refine ⟨⟨a0, a1, a2, a3, a4, a5, a6⟩, ⟨c6, c7, rfl, i0, i1, i2, i3, i4.1, i4.2, q5, q6⟩, fun M hM => ⟨f5 M fun m hm => hM m (by simp [DataW.weights, DataW.weightsEach, Try.underlying148, hm]), f6 M fun m hm => hM m (by simp [DataW.weights, DataW.weightsEach, Try.underlying148, hm])⟩, ?_⟩
  have t_ : Meas.blk a0 ≤ Rows.uptoBulk y0.1 ∧ Meas.blk a1 ≤ Rows.uptoBulk y1.1 ∧ Meas.blk a2 ≤ Rows.uptoBulk y2.1 ∧ Meas.blk a3 ≤ Rows.uptoBulk y3.1 ∧ Meas.blk a4 ≤ Rows.uptoBulk y4.1 ∧ Meas.blk a5 ≤ Rows.uptoBulk y5.1 ∧ Meas.blk a6 ≤ Rows.uptoBulk y6.1 := ⟨b0, b1, b2, b3, b4, b5, b6⟩
  show 1 + 1 + 1 + 1 + 1 + 3 + Meas.blk a5 + Meas.blk a6 ≤ _
  have z0 : 1 ≤ Rows.uptoBulk y0.1 := b0
  have z1 : 1 ≤ Rows.uptoBulk y1.1 := b1
  have z2 : 1 ≤ Rows.uptoBulk y2.1 := b2
  have z3 : 1 ≤ Rows.uptoBulk y3.1 := b3
  have z4 : 3 ≤ Rows.uptoBulk y4.1 := b4
  simp only [Rows.uptoBulk, Rows.uptoBulkAll, List.map_cons, List.map_nil]
  omega
theorem opens_Fr_l : Opens (List Fr) Try.prog 36 := opens_list Try.underlying36 (by kernel_rfl) (by kernel_rfl) opens_Fr

instance : Meas Ce where
  bytes := 64
  fits M x := Meas.fits M x.vals ∧ Meas.fits M x.frames
  blk x := 1 + 1 + 1 + Meas.blk x.vals + Meas.blk x.frames
instance : Inhabited Ce := ⟨⟨default, default, default, default⟩⟩
theorem opens_Ce : Opens Ce Try.prog 38 := by
  refine ⟨by kernel_rfl, by kernel_rfl, by decide, ?_⟩
  intro H enc w spare held fuel cs x h
  obtain ⟨xs, n, -, rfl, hl, hxl, hf⟩ := DataW.trod_struct Try.underlying38 h
  have hl1 : cs.length = 3 + 1 := hl.trans (by kernel_rfl)
  have hx1 : xs.length = 3 + 1 := hxl
  obtain ⟨c0, r0, rfl, hl2⟩ := lenS hl1
  obtain ⟨c1, r1, rfl, hl3⟩ := lenS hl2
  obtain ⟨c2, r2, rfl, hl4⟩ := lenS hl3
  obtain ⟨c3, rfl⟩ := len1 hl4
  obtain ⟨y0, s0, rfl, hx2⟩ := lenS hx1
  obtain ⟨y1, s1, rfl, hx3⟩ := lenS hx2
  obtain ⟨y2, s2, rfl, hx4⟩ := lenS hx3
  obtain ⟨y3, rfl⟩ := len1 hx4
  have g0 : DataW.trod enc Try.prog w 0 spare held n 3 (([c0, c1, c2, c3].drop 0).take (Try.prog.cellsOf 3)) = some y0 := hf 0 _ rfl
  have g1 : DataW.trod enc Try.prog w 0 spare held n 3 (([c0, c1, c2, c3].drop 1).take (Try.prog.cellsOf 3)) = some y1 := hf 1 _ rfl
  have g2 : DataW.trod enc Try.prog w 0 spare held n 35 (([c0, c1, c2, c3].drop 2).take (Try.prog.cellsOf 35)) = some y2 := hf 2 _ rfl
  have g3 : DataW.trod enc Try.prog w 0 spare held n 36 (([c0, c1, c2, c3].drop 3).take (Try.prog.cellsOf 36)) = some y3 := hf 3 _ rfl
  rw [show Try.prog.cellsOf 3 = 1 from opens_Int.2.1] at g0
  obtain ⟨a0, q0, f0, b0⟩ := opens_Int.2.2.2 _ _ _ _ _ _ _ _ g0
  obtain ⟨e0, i0⟩ := q0
  injection e0 with e0; subst e0
  rw [show Try.prog.cellsOf 3 = 1 from opens_Int.2.1] at g1
  obtain ⟨a1, q1, f1, b1⟩ := opens_Int.2.2.2 _ _ _ _ _ _ _ _ g1
  obtain ⟨e1, i1⟩ := q1
  injection e1 with e1; subst e1
  rw [show Try.prog.cellsOf 35 = 1 from opens_P_Val_l.2.1] at g2
  obtain ⟨a2, q2, f2, b2⟩ := opens_P_Val_l.2.2.2 _ _ _ _ _ _ _ _ g2
  rw [show Try.prog.cellsOf 36 = 1 from opens_Fr_l.2.1] at g3
  obtain ⟨a3, q3, f3, b3⟩ := opens_Fr_l.2.2.2 _ _ _ _ _ _ _ _ g3
  refine ⟨⟨a0, a1, a2, a3⟩, ⟨c2, c3, rfl, i0, i1, q2, q3⟩, fun M hM => ⟨f2 M fun m hm => hM m (by simp [DataW.weights, DataW.weightsEach, Try.underlying38, hm]), f3 M fun m hm => hM m (by simp [DataW.weights, DataW.weightsEach, Try.underlying38, hm])⟩, ?_⟩
  have t_ : Meas.blk a0 ≤ Rows.uptoBulk y0.1 ∧ Meas.blk a1 ≤ Rows.uptoBulk y1.1 ∧ Meas.blk a2 ≤ Rows.uptoBulk y2.1 ∧ Meas.blk a3 ≤ Rows.uptoBulk y3.1 := ⟨b0, b1, b2, b3⟩
  show 1 + 1 + 1 + Meas.blk a2 + Meas.blk a3 ≤ _
  have z0 : 1 ≤ Rows.uptoBulk y0.1 := b0
  have z1 : 1 ≤ Rows.uptoBulk y1.1 := b1
  simp only [Rows.uptoBulk, Rows.uptoBulkAll, List.map_cons, List.map_nil]
  omega
theorem opens_Ce_l : Opens (List Ce) Try.prog 66 := opens_list Try.underlying66 (by kernel_rfl) (by kernel_rfl) opens_Ce

theorem opens_LInt : Opens (List Int) Try.prog 47 := opens_list Try.underlying47 (by kernel_rfl) (by kernel_rfl) opens_Int

theorem opens_LLInt : Opens (List (List Int)) Try.prog 46 := opens_list Try.underlying46 (by kernel_rfl) (by kernel_rfl) opens_LInt

instance : Meas Gr where
  bytes := 48
  fits M x := Meas.fits M x.has ∧ Meas.fits M x.roots
  blk x := 1 + Meas.blk x.has + Meas.blk x.roots
instance : Inhabited Gr := ⟨⟨default, default⟩⟩
theorem opens_Gr : Opens Gr Try.prog 49 := by
  refine ⟨by kernel_rfl, by kernel_rfl, by decide, ?_⟩
  intro H enc w spare held fuel cs x h
  obtain ⟨xs, n, -, rfl, hl, hxl, hf⟩ := DataW.trod_struct Try.underlying49 h
  have hl1 : cs.length = 1 + 1 := hl.trans (by kernel_rfl)
  have hx1 : xs.length = 1 + 1 := hxl
  obtain ⟨c0, r0, rfl, hl2⟩ := lenS hl1
  obtain ⟨c1, rfl⟩ := len1 hl2
  obtain ⟨y0, s0, rfl, hx2⟩ := lenS hx1
  obtain ⟨y1, rfl⟩ := len1 hx2
  have g0 : DataW.trod enc Try.prog w 0 spare held n 46 (([c0, c1].drop 0).take (Try.prog.cellsOf 46)) = some y0 := hf 0 _ rfl
  have g1 : DataW.trod enc Try.prog w 0 spare held n 47 (([c0, c1].drop 1).take (Try.prog.cellsOf 47)) = some y1 := hf 1 _ rfl
  rw [show Try.prog.cellsOf 46 = 1 from opens_LLInt.2.1] at g0
  obtain ⟨a0, q0, f0, b0⟩ := opens_LLInt.2.2.2 _ _ _ _ _ _ _ _ g0
  rw [show Try.prog.cellsOf 47 = 1 from opens_LInt.2.1] at g1
  obtain ⟨a1, q1, f1, b1⟩ := opens_LInt.2.2.2 _ _ _ _ _ _ _ _ g1
  refine ⟨⟨a0, a1⟩, ⟨c0, c1, rfl, q0, q1⟩, fun M hM => ⟨f0 M fun m hm => hM m (by simp [DataW.weights, DataW.weightsEach, Try.underlying49, hm]), f1 M fun m hm => hM m (by simp [DataW.weights, DataW.weightsEach, Try.underlying49, hm])⟩, ?_⟩
  have t_ : Meas.blk a0 ≤ Rows.uptoBulk y0.1 ∧ Meas.blk a1 ≤ Rows.uptoBulk y1.1 := ⟨b0, b1⟩
  show 1 + Meas.blk a0 + Meas.blk a1 ≤ _
  simp only [Rows.uptoBulk, Rows.uptoBulkAll, List.map_cons, List.map_nil]
  omega

theorem opens_U64 : Opens U64 Try.prog 24 := opens_u64 Try.underlying24 (by kernel_rfl) (by kernel_rfl)
instance : Inhabited U64 := ⟨⟨0⟩⟩
theorem opens_LU64 : Opens (List U64) Try.prog 39 := opens_list Try.underlying39 (by kernel_rfl) (by kernel_rfl) opens_U64

instance : Meas Hp where
  bytes := 48
  fits M x := Meas.fits M x.words ∧ Meas.fits M x.roots
  blk x := 1 + Meas.blk x.words + Meas.blk x.roots
instance : Inhabited Hp := ⟨⟨default, default⟩⟩
theorem opens_Hp : Opens Hp Try.prog 70 := by
  refine ⟨by kernel_rfl, by kernel_rfl, by decide, ?_⟩
  intro H enc w spare held fuel cs x h
  obtain ⟨xs, n, -, rfl, hl, hxl, hf⟩ := DataW.trod_struct Try.underlying70 h
  have hl1 : cs.length = 1 + 1 := hl.trans (by kernel_rfl)
  have hx1 : xs.length = 1 + 1 := hxl
  obtain ⟨c0, r0, rfl, hl2⟩ := lenS hl1
  obtain ⟨c1, rfl⟩ := len1 hl2
  obtain ⟨y0, s0, rfl, hx2⟩ := lenS hx1
  obtain ⟨y1, rfl⟩ := len1 hx2
  have g0 : DataW.trod enc Try.prog w 0 spare held n 39 (([c0, c1].drop 0).take (Try.prog.cellsOf 39)) = some y0 := hf 0 _ rfl
  have g1 : DataW.trod enc Try.prog w 0 spare held n 39 (([c0, c1].drop 1).take (Try.prog.cellsOf 39)) = some y1 := hf 1 _ rfl
  rw [show Try.prog.cellsOf 39 = 1 from opens_LU64.2.1] at g0
  obtain ⟨a0, q0, f0, b0⟩ := opens_LU64.2.2.2 _ _ _ _ _ _ _ _ g0
  rw [show Try.prog.cellsOf 39 = 1 from opens_LU64.2.1] at g1
  obtain ⟨a1, q1, f1, b1⟩ := opens_LU64.2.2.2 _ _ _ _ _ _ _ _ g1
  refine ⟨⟨a0, a1⟩, ⟨c0, c1, rfl, q0, q1⟩, fun M hM => ⟨f0 M fun m hm => hM m (by simp [DataW.weights, DataW.weightsEach, Try.underlying70, hm]), f1 M fun m hm => hM m (by simp [DataW.weights, DataW.weightsEach, Try.underlying70, hm])⟩, ?_⟩
  have t_ : Meas.blk a0 ≤ Rows.uptoBulk y0.1 ∧ Meas.blk a1 ≤ Rows.uptoBulk y1.1 := ⟨b0, b1⟩
  show 1 + Meas.blk a0 + Meas.blk a1 ≤ _
  simp only [Rows.uptoBulk, Rows.uptoBulkAll, List.map_cons, List.map_nil]
  omega

instance : Meas De where
  bytes := 32
  fits M x := True
  blk x := 1 + 1 + 1 + 1 + 1
instance : Inhabited De := ⟨⟨default, default, default, default⟩⟩
theorem opens_De : Opens De Try.prog 97 := by
  refine ⟨by kernel_rfl, by kernel_rfl, by decide, ?_⟩
  intro H enc w spare held fuel cs x h
  obtain ⟨xs, n, -, rfl, hl, hxl, hf⟩ := DataW.trod_struct Try.underlying97 h
  have hl1 : cs.length = 3 + 1 := hl.trans (by kernel_rfl)
  have hx1 : xs.length = 3 + 1 := hxl
  obtain ⟨c0, r0, rfl, hl2⟩ := lenS hl1
  obtain ⟨c1, r1, rfl, hl3⟩ := lenS hl2
  obtain ⟨c2, r2, rfl, hl4⟩ := lenS hl3
  obtain ⟨c3, rfl⟩ := len1 hl4
  obtain ⟨y0, s0, rfl, hx2⟩ := lenS hx1
  obtain ⟨y1, s1, rfl, hx3⟩ := lenS hx2
  obtain ⟨y2, s2, rfl, hx4⟩ := lenS hx3
  obtain ⟨y3, rfl⟩ := len1 hx4
  have g0 : DataW.trod enc Try.prog w 0 spare held n 3 (([c0, c1, c2, c3].drop 0).take (Try.prog.cellsOf 3)) = some y0 := hf 0 _ rfl
  have g1 : DataW.trod enc Try.prog w 0 spare held n 3 (([c0, c1, c2, c3].drop 1).take (Try.prog.cellsOf 3)) = some y1 := hf 1 _ rfl
  have g2 : DataW.trod enc Try.prog w 0 spare held n 3 (([c0, c1, c2, c3].drop 2).take (Try.prog.cellsOf 3)) = some y2 := hf 2 _ rfl
  have g3 : DataW.trod enc Try.prog w 0 spare held n 3 (([c0, c1, c2, c3].drop 3).take (Try.prog.cellsOf 3)) = some y3 := hf 3 _ rfl
  rw [show Try.prog.cellsOf 3 = 1 from opens_Int.2.1] at g0
  obtain ⟨a0, q0, f0, b0⟩ := opens_Int.2.2.2 _ _ _ _ _ _ _ _ g0
  obtain ⟨e0, i0⟩ := q0
  injection e0 with e0; subst e0
  rw [show Try.prog.cellsOf 3 = 1 from opens_Int.2.1] at g1
  obtain ⟨a1, q1, f1, b1⟩ := opens_Int.2.2.2 _ _ _ _ _ _ _ _ g1
  obtain ⟨e1, i1⟩ := q1
  injection e1 with e1; subst e1
  rw [show Try.prog.cellsOf 3 = 1 from opens_Int.2.1] at g2
  obtain ⟨a2, q2, f2, b2⟩ := opens_Int.2.2.2 _ _ _ _ _ _ _ _ g2
  obtain ⟨e2, i2⟩ := q2
  injection e2 with e2; subst e2
  rw [show Try.prog.cellsOf 3 = 1 from opens_Int.2.1] at g3
  obtain ⟨a3, q3, f3, b3⟩ := opens_Int.2.2.2 _ _ _ _ _ _ _ _ g3
  obtain ⟨e3, i3⟩ := q3
  injection e3 with e3; subst e3
  refine ⟨⟨a0, a1, a2, a3⟩, ⟨rfl, i0, i1, i2, i3⟩, fun M hM => trivial, ?_⟩
  have t_ : Meas.blk a0 ≤ Rows.uptoBulk y0.1 ∧ Meas.blk a1 ≤ Rows.uptoBulk y1.1 ∧ Meas.blk a2 ≤ Rows.uptoBulk y2.1 ∧ Meas.blk a3 ≤ Rows.uptoBulk y3.1 := ⟨b0, b1, b2, b3⟩
  show 1 + 1 + 1 + 1 + 1 ≤ _
  have z0 : 1 ≤ Rows.uptoBulk y0.1 := b0
  have z1 : 1 ≤ Rows.uptoBulk y1.1 := b1
  have z2 : 1 ≤ Rows.uptoBulk y2.1 := b2
  have z3 : 1 ≤ Rows.uptoBulk y3.1 := b3
  simp only [Rows.uptoBulk, Rows.uptoBulkAll, List.map_cons, List.map_nil]
  omega
theorem opens_De_l : Opens (List De) Try.prog 88 := opens_list Try.underlying88 (by kernel_rfl) (by kernel_rfl) opens_De

theorem opens_P_RPair : Opens (Int × Int) Try.prog 63 := by
  refine ⟨by kernel_rfl, by kernel_rfl, by decide, ?_⟩
  intro H enc w spare held fuel cs x h
  obtain ⟨xs, n, -, rfl, hl, hxl, hf⟩ := DataW.trod_struct Try.underlying63 h
  have hl' : cs.length = 1 + 1 := hl.trans (by kernel_rfl)
  have hxl' : xs.length = 1 + 1 := hxl
  obtain ⟨c0, r, rfl, hl2⟩ := lenS hl'
  obtain ⟨c1, rfl⟩ := len1 hl2
  obtain ⟨y0, s, rfl, hxl2⟩ := lenS hxl'
  obtain ⟨y1, rfl⟩ := len1 hxl2
  have g0 : DataW.trod enc Try.prog w 0 spare held n 3 (([c0, c1].drop 0).take (Try.prog.cellsOf 3)) = some y0 := hf 0 _ rfl
  have g1 : DataW.trod enc Try.prog w 0 spare held n 3 (([c0, c1].drop 1).take (Try.prog.cellsOf 3)) = some y1 := hf 1 _ rfl
  rw [show Try.prog.cellsOf 3 = 1 from opens_Int.2.1] at g0 g1
  obtain ⟨a0, ⟨e0, i0⟩, -, -⟩ := opens_Int.2.2.2 _ _ _ _ _ _ _ _ g0
  obtain ⟨a1, ⟨e1, i1⟩, -, -⟩ := opens_Int.2.2.2 _ _ _ _ _ _ _ _ g1
  injection e0 with e0; subst e0
  injection e1 with e1; subst e1
  refine ⟨(a0, a1), ⟨rfl, i0, i1⟩, fun _ _ => trivial, ?_⟩
  have b0 := bulk_pos y0.1
  have b1 := bulk_pos y1.1
  simp only [Meas.blk, Rows.uptoBulk, Rows.uptoBulkAll, List.map_cons, List.map_nil]
  omega
theorem opens_P_RPair_l : Opens (List (Int × Int)) Try.prog 50 := opens_list Try.underlying50 (by kernel_rfl) (by kernel_rfl) opens_P_RPair

end Go.Proofs.Ytpkccpegdpodoaa
