/-
  The types of this seat's arguments, opened (printed by genopen.py).
-/
import Derived.Test.YtpkccpegdpodoaaOpens
namespace Go.Proofs.Ytpkccpegdpodoaa
open Go.RowKit Go.ChangeShapes Go.WideShapes Go.Deep

theorem opens_Int : Opens Int Try.prog 3 := opens_int Try.underlying3 (by kernel_rfl) (by kernel_rfl)

theorem opens_P_Val : Opens (Int × Int) Try.prog 23 := by
  refine ⟨by kernel_rfl, by kernel_rfl, by decide, ?_⟩
  intro H enc w spare held fuel cs x h
  obtain ⟨xs, n, -, rfl, hl, hxl, hf⟩ := DataW.trod_struct Try.underlying23 h
  have hl' : cs.length = 1 + 1 := hl.trans (by kernel_rfl)
  have hxl' : xs.length = 1 + 1 := hxl
  obtain ⟨c0, r, rfl, hl2⟩ := lenS hl'
  obtain ⟨c1, rfl⟩ := len1 hl2
  obtain ⟨y0, s, rfl, hxl2⟩ := lenS hxl'
  obtain ⟨y1, rfl⟩ := len1 hxl2
  have g0 : DataW.trod enc Try.prog w 0 spare held n 3 (([c0, c1].drop 0).take (Try.prog.cellsOf 3)) = some y0 := hf 0 _ rfl
  have g1 : DataW.trod enc Try.prog w 0 spare held n 3 (([c0, c1].drop 1).take (Try.prog.cellsOf 3)) = some y1 := hf 1 _ rfl
  rw [show Try.prog.cellsOf 3 = 1 from opens_Int.2.1] at g0 g1
  obtain ⟨a0, ⟨e0, i0⟩, -, -⟩ := opens_Int.2.2.2 _ _ _ _ _ _ _ _ g0
  obtain ⟨a1, ⟨e1, i1⟩, -, -⟩ := opens_Int.2.2.2 _ _ _ _ _ _ _ _ g1
  injection e0 with e0; subst e0
  injection e1 with e1; subst e1
  refine ⟨(a0, a1), ⟨rfl, i0, i1⟩, fun _ _ => trivial, ?_⟩
  have b0 := bulk_pos y0.1
  have b1 := bulk_pos y1.1
  simp only [Meas.blk, Rows.uptoBulk, Rows.uptoBulkAll, List.map_cons, List.map_nil]
  omega
theorem opens_P_Val_l : Opens (List (Int × Int)) Try.prog 35 := opens_list Try.underlying35 (by kernel_rfl) (by kernel_rfl) opens_P_Val

end Go.Proofs.Ytpkccpegdpodoaa
