/- KT: Opens, OpensT, Open, Wrap, Bulk. -/
import Derived.Test.YtdlcooplllimeaaGreatDoorKT1
import Derived.Test.YtdlcooplllimeaaGreatDoorRows
import Derived.ProofKit
import Derived.OpenShut
import Derived.JoinedCond
import Derived.Deep.CondSized
/-
  From an argument's reading to Lean's data: what it asks of a type, and the general laws (integers, structs of integers, slices).
-/
namespace Go.Proofs.YtdlcooplllimeaaGreatDoor
open Go.RowKit Go.ChangeShapes Go.WideShapes Go.Deep

/-- how many bytes a value of the type has, whether a value's slices fit a bound on bytes, how many values it holds -/
class Meas (α : Type) where
  bytes : Nat
  fits : Nat → α → Prop
  blk : α → Nat

def blkSum {α : Type} [Meas α] : List α → Nat
  | [] => 0
  | x :: l => Meas.blk x + blkSum l

instance : Meas Int where
  bytes := 8
  fits _ _ := True
  blk _ := 1
instance : Meas (Int × Int) where
  bytes := 16
  fits _ _ := True
  blk _ := 3
instance : Meas (Int × Int × Int) where
  bytes := 24
  fits _ _ := True
  blk _ := 5
instance : Meas U64 where
  bytes := 8
  fits _ _ := True
  blk _ := 1
instance {α : Type} [Meas α] : Meas (List α) where
  bytes := 24
  fits M l := l.length * Meas.bytes α ≤ M ∧ ∀ x ∈ l, Meas.fits M x
  blk l := blkSum l + 1

theorem bulk_pos {H : Type} (d : DataW H) : 1 ≤ Rows.uptoBulk d := by
  cases d with
  | lit l => cases l <;> simp [Rows.uptoBulk]
  | nil => simp [Rows.uptoBulk]
  | ptr d => simp [Rows.uptoBulk]
  | slice elems spare => simp [Rows.uptoBulk]
  | agg parts => simp [Rows.uptoBulk]
  | iface t d => simp [Rows.uptoBulk]
  | map entries => simp [Rows.uptoBulk]
  | held h => simp [Rows.uptoBulk]

/-- a type of the program's whose every reading is Lean's data of type α -/
def Opens (α : Type) [Enc α] [Meas α] (P : Program) (t : TypeId) : Prop :=
  P.bytesOf t = Meas.bytes α ∧ P.cellsOf t = Enc.sz α ∧ 0 < Enc.sz α ∧
    ∀ (H : Type) (enc : TypeId × Value → H) (w : World) (spare : Nat → Bool) (held : Bool) (fuel : Nat) (cs : List Value) (x : DataW H × List MemPlace), DataW.trod enc P w 0 spare held fuel t cs = some x →
      ∃ a : α, Enc.rd w w.heap.size cs a ∧ (∀ M, (∀ n ∈ x.1.weights P t, n ≤ M) → Meas.fits M a) ∧ Meas.blk a ≤ Rows.uptoBulk x.1

theorem opens_int {P : Program} {t : TypeId} (ht : P.underlying t = some (.int .i64)) (hb : P.bytesOf t = 8) (hc : P.cellsOf t = 1) : Opens Int P t := by
  refine ⟨hb, hc, Nat.zero_lt_one, fun H enc w spare held fuel cs x h => ?_⟩
  obtain ⟨n, rfl, rfl, hwf⟩ := DataW.trod_int ht h
  refine ⟨n, ⟨rfl, ?_⟩, fun _ _ => trivial, bulk_pos _⟩
  have : -9223372036854775808 ≤ n ∧ n ≤ 9223372036854775807 := by simpa [Lit.wf, IntKind.min, IntKind.max, IntKind.signed, IntKind.bits] using hwf
  exact this

theorem opens_u64 {P : Program} {t : TypeId} (ht : P.underlying t = some (.int .u64)) (hb : P.bytesOf t = 8) (hc : P.cellsOf t = 1) : Opens U64 P t := by
  refine ⟨hb, hc, Nat.zero_lt_one, fun H enc w spare held fuel cs x h => ?_⟩
  obtain ⟨n, rfl, rfl, hwf⟩ := DataW.trod_int ht h
  refine ⟨⟨n⟩, ⟨rfl, ?_⟩, fun _ _ => trivial, bulk_pos _⟩
  have : 0 ≤ n ∧ n ≤ 18446744073709551615 := by simpa [Lit.wf, IntKind.min, IntKind.max, IntKind.signed, IntKind.bits] using hwf
  exact this

theorem mem_weightsAll {H : Type} {P : Program} {e : TypeId} {l : List (DataW H)} {d : DataW H} (hd : d ∈ l) : ∀ n ∈ d.weights P e, n ∈ DataW.weightsAll P e l := by
  induction l with
  | nil => cases hd
  | cons y l ih =>
    intro n hn
    simp only [DataW.weightsAll, List.mem_append]
    rcases List.mem_cons.1 hd with rfl | h
    · exact .inl hn
    · exact .inr (ih h n hn)

theorem blkSum_le {α H : Type} [Meas α] (f : Nat → α) (D : Nat → DataW H) : ∀ n, (∀ i, i < n → Meas.blk (f i) ≤ Rows.uptoBulk (D i)) → blkSum ((List.range n).map f) ≤ Rows.uptoBulkAll ((List.range n).map D) := by
  intro n
  have key : ∀ l : List Nat, (∀ i ∈ l, Meas.blk (f i) ≤ Rows.uptoBulk (D i)) → blkSum (l.map f) ≤ Rows.uptoBulkAll (l.map D) := by
    intro l
    induction l with
    | nil => intro _; simp [blkSum, Rows.uptoBulkAll]
    | cons i l ih =>
      intro h
      simp only [List.map_cons, blkSum, Rows.uptoBulkAll]
      have h1 := h i (by simp)
      have h2 := ih fun j hj => h j (by simp [hj])
      omega
  exact fun h => key _ fun i hi => h i (List.mem_range.1 hi)

theorem opens_list {α : Type} [Enc α] [Meas α] [Inhabited α] {P : Program} {t e : TypeId} (ht : P.underlying t = some (.slice e)) (hb : P.bytesOf t = 24) (hc : P.cellsOf t = 1) (he : Opens α P e) : Opens (List α) P t := by
  refine ⟨hb, hc, Nat.zero_lt_one, fun H enc w spare held fuel cs x h => ?_⟩
  rcases open_slice ht h with ⟨rfl, rfl⟩ | ⟨a, len, cap, m, n, D, Pl, rfl, hba, hl, hm, hmm, rfl, hi⟩
  · exact ⟨[], ⟨none, 0, rfl, Nat.le_refl _, by simp [maxLen], fun _ => rfl, At.nil_⟩, fun _ _ => ⟨by simp, by simp⟩, by simp [Meas.blk, blkSum, Rows.uptoBulk]⟩
  · have hlm : len ≤ m := by subst hmm; split <;> omega
    obtain ⟨f, hf⟩ := choose_lt (α := α) (n := len) (p := fun i y => ∃ cs', w.cells? 0 (a.add (i * P.cellsOf e)) (P.cellsOf e) = some cs' ∧ Enc.rd w w.heap.size cs' y ∧ (∀ M, (∀ n ∈ (D i).weights P e, n ≤ M) → Meas.fits M y) ∧ Meas.blk y ≤ Rows.uptoBulk (D i)) (fun i hil => by
      obtain ⟨cs', h1, h2⟩ := hi i (by omega)
      obtain ⟨y, hy1, hy2, hy3⟩ := he.2.2.2 H enc w spare held n cs' (D i, Pl i) h2
      exact ⟨y, cs', h1, hy1, hy2, hy3⟩)
    refine ⟨(List.range len).map f, ⟨some a, cap, by simp, by simpa using hl, hm, by simp, ?_⟩, fun M hM => ⟨?_, ?_⟩, ?_⟩
    · intro i y hy
      have hil : i < len := by
        have := (List.getElem?_eq_some_iff.1 hy).1
        simpa using this
      have hyf : y = f i := by
        rw [List.getElem?_map, List.getElem?_range hil] at hy
        simpa using hy.symm
      subst hyf
      have hspot : a.spot = none := by
        obtain ⟨cs0, h1, -, -, -⟩ := hf 0 (by omega)
        obtain ⟨-, hlen, hcell⟩ := World.cells?_some h1
        rw [he.2.1] at hlen hcell
        have h0 := hcell 0 he.2.2.1
        rw [List.getElem?_eq_getElem (by rw [hlen]; exact he.2.2.1), Nat.zero_mul] at h0
        exact World.cell?_spot (a := a) h0
      obtain ⟨cs', h1, h2, -, -⟩ := hf i hil
      obtain ⟨-, hlen, hcell⟩ := World.cells?_some h1
      rw [he.2.1] at hlen hcell h1
      obtain ⟨b, o, spot⟩ := a
      have hpos := he.2.2.1
      have h0 := hcell 0 hpos
      rw [List.getElem?_eq_getElem (by omega)] at h0
      simp only at hspot
      subst hspot
      refine ⟨b, o, cs', rfl, ?_, ?_, h2⟩
      · rw [add_mk, add_mk] at h0
        exact block_lt_of_cell h0
      · intro j u hu
        have hj : j < Enc.sz α := by rw [← hlen]; exact (List.getElem?_eq_some_iff.1 hu).1
        have := hcell j hj
        rw [add_mk, add_mk, hu] at this
        exact this
    · have h1 := hM ((len + (m - len)) * P.bytesOf e) (by simp [DataW.weights, ht])
      rw [he.1] at h1
      simp only [List.length_map, List.length_range]
      exact Nat.le_trans (Nat.mul_le_mul_right _ (by omega)) h1
    · intro y hy
      obtain ⟨i, hi', rfl⟩ := List.mem_map.1 hy
      have hil := List.mem_range.1 hi'
      obtain ⟨-, -, -, h3, -⟩ := hf i hil
      refine h3 M fun n hn => hM n ?_
      simp only [DataW.weights, ht, List.mem_cons, List.mem_append]
      exact .inr (.inl (mem_weightsAll (List.mem_map.2 ⟨i, hi', rfl⟩) n hn))
    · have h1 := blkSum_le f D len fun i hil => by
        obtain ⟨-, -, -, -, h4⟩ := hf i hil
        exact h4
      simp only [Meas.blk, Rows.uptoBulk]
      omega

/-- a list of known length, written out -/
theorem len1 {α : Type} {l : List α} (h : l.length = 1) : ∃ a, l = [a] := by
  match l, h with | [a], _ => exact ⟨a, rfl⟩
theorem lenS {α : Type} {l : List α} {n : Nat} (h : l.length = n + 1) : ∃ a r, l = a :: r ∧ r.length = n := by
  match l, h with | a :: r, h => exact ⟨a, r, rfl, by simpa using h⟩

end Go.Proofs.YtdlcooplllimeaaGreatDoor

/- Strings and bools among a law's arguments, opened. -/
namespace Go.Proofs.YtdlcooplllimeaaGreatDoor
open Go.RowKit Go.ChangeShapes Go.WideShapes Go.Deep

instance : Meas ByteArray where
  bytes := 16
  fits _ _ := True
  blk _ := 1
instance : Inhabited ByteArray := ⟨⟨#[]⟩⟩
instance : Meas Bool where
  bytes := 1
  fits _ _ := True
  blk _ := 1
theorem opens_string {P : Program} {t : TypeId} (ht : P.underlying t = some .string) (hb : P.bytesOf t = 16) (hc : P.cellsOf t = 1) : Opens ByteArray P t := by
  refine ⟨hb, hc, Nat.zero_lt_one, fun H enc w spare held fuel cs x h => ?_⟩
  obtain ⟨s, rfl, rfl, hwf⟩ := DataW.trod_string ht h
  exact ⟨s, ⟨rfl, hwf⟩, fun _ _ => trivial, bulk_pos _⟩
theorem opens_bool {P : Program} {t : TypeId} (ht : P.underlying t = some .bool) (hb : P.bytesOf t = 1) (hc : P.cellsOf t = 1) : Opens Bool P t := by
  refine ⟨hb, hc, Nat.zero_lt_one, fun H enc w spare held fuel cs x h => ?_⟩
  obtain ⟨s, rfl, rfl⟩ := DataW.trod_bool ht h
  exact ⟨s, ⟨rfl, trivial⟩, fun _ _ => trivial, bulk_pos _⟩
end Go.Proofs.YtdlcooplllimeaaGreatDoor

/-
  The types of this seat's arguments, opened (printed by genopen.py).
-/
namespace Go.Proofs.YtdlcooplllimeaaGreatDoor
open Go.RowKit Go.ChangeShapes Go.WideShapes Go.Deep

theorem opens_Int : Opens Int Tryz.prog 3 := opens_int Tryz.underlying3 (by kernel_rfl) (by kernel_rfl)

theorem opens_Bool : Opens Bool Tryz.prog 4 := opens_bool Tryz.underlying4 (by kernel_rfl) (by kernel_rfl)

theorem opens_LInt : Opens (List Int) Tryz.prog 34 := opens_list Tryz.underlying34 (by kernel_rfl) (by kernel_rfl) opens_Int

instance : Meas In where
  bytes := 40
  fits _M _x := True
  blk _x := 1 + 1 + 1 + 1 + 1 + 1
instance : Inhabited In := ⟨⟨default, default, default, default, default⟩⟩
theorem opens_In : Opens In Tryz.prog 213 := by
  refine ⟨by kernel_rfl, by kernel_rfl, by decide, ?_⟩
  intro H enc w spare held fuel cs x h
  obtain ⟨xs, n, -, rfl, hl, hxl, hf⟩ := DataW.trod_struct Tryz.underlying213 h
  have hl1 : cs.length = 4 + 1 := hl.trans (by kernel_rfl)
  have hx1 : xs.length = 4 + 1 := hxl
  obtain ⟨c0, r0, rfl, hl2⟩ := lenS hl1
  obtain ⟨c1, r1, rfl, hl3⟩ := lenS hl2
  obtain ⟨c2, r2, rfl, hl4⟩ := lenS hl3
  obtain ⟨c3, r3, rfl, hl5⟩ := lenS hl4
  obtain ⟨c4, rfl⟩ := len1 hl5
  obtain ⟨y0, s0, rfl, hx2⟩ := lenS hx1
  obtain ⟨y1, s1, rfl, hx3⟩ := lenS hx2
  obtain ⟨y2, s2, rfl, hx4⟩ := lenS hx3
  obtain ⟨y3, s3, rfl, hx5⟩ := lenS hx4
  obtain ⟨y4, rfl⟩ := len1 hx5
  have g0 : DataW.trod enc Tryz.prog w 0 spare held n 3 (([c0, c1, c2, c3, c4].drop 0).take (Tryz.prog.cellsOf 3)) = some y0 := hf 0 _ rfl
  have g1 : DataW.trod enc Tryz.prog w 0 spare held n 3 (([c0, c1, c2, c3, c4].drop 1).take (Tryz.prog.cellsOf 3)) = some y1 := hf 1 _ rfl
  have g2 : DataW.trod enc Tryz.prog w 0 spare held n 3 (([c0, c1, c2, c3, c4].drop 2).take (Tryz.prog.cellsOf 3)) = some y2 := hf 2 _ rfl
  have g3 : DataW.trod enc Tryz.prog w 0 spare held n 3 (([c0, c1, c2, c3, c4].drop 3).take (Tryz.prog.cellsOf 3)) = some y3 := hf 3 _ rfl
  have g4 : DataW.trod enc Tryz.prog w 0 spare held n 3 (([c0, c1, c2, c3, c4].drop 4).take (Tryz.prog.cellsOf 3)) = some y4 := hf 4 _ rfl
  rw [show Tryz.prog.cellsOf 3 = 1 from opens_Int.2.1] at g0
  obtain ⟨a0, q0, f0, b0⟩ := opens_Int.2.2.2 _ _ _ _ _ _ _ _ g0
  obtain ⟨e0, i0⟩ := q0
  injection e0 with e0; subst e0
  rw [show Tryz.prog.cellsOf 3 = 1 from opens_Int.2.1] at g1
  obtain ⟨a1, q1, f1, b1⟩ := opens_Int.2.2.2 _ _ _ _ _ _ _ _ g1
  obtain ⟨e1, i1⟩ := q1
  injection e1 with e1; subst e1
  rw [show Tryz.prog.cellsOf 3 = 1 from opens_Int.2.1] at g2
  obtain ⟨a2, q2, f2, b2⟩ := opens_Int.2.2.2 _ _ _ _ _ _ _ _ g2
  obtain ⟨e2, i2⟩ := q2
  injection e2 with e2; subst e2
  rw [show Tryz.prog.cellsOf 3 = 1 from opens_Int.2.1] at g3
  obtain ⟨a3, q3, f3, b3⟩ := opens_Int.2.2.2 _ _ _ _ _ _ _ _ g3
  obtain ⟨e3, i3⟩ := q3
  injection e3 with e3; subst e3
  rw [show Tryz.prog.cellsOf 3 = 1 from opens_Int.2.1] at g4
  obtain ⟨a4, q4, f4, b4⟩ := opens_Int.2.2.2 _ _ _ _ _ _ _ _ g4
  obtain ⟨e4, i4⟩ := q4
  injection e4 with e4; subst e4
  refine ⟨⟨a0, a1, a2, a3, a4⟩, ⟨rfl, i0, i1, i2, i3, i4⟩, fun M hM => trivial, ?_⟩
  have t_ : Meas.blk a0 ≤ Rows.uptoBulk y0.1 ∧ Meas.blk a1 ≤ Rows.uptoBulk y1.1 ∧ Meas.blk a2 ≤ Rows.uptoBulk y2.1 ∧ Meas.blk a3 ≤ Rows.uptoBulk y3.1 ∧ Meas.blk a4 ≤ Rows.uptoBulk y4.1 := ⟨b0, b1, b2, b3, b4⟩
  show 1 + 1 + 1 + 1 + 1 + 1 ≤ _
  have z0 : 1 ≤ Rows.uptoBulk y0.1 := b0
  have z1 : 1 ≤ Rows.uptoBulk y1.1 := b1
  have z2 : 1 ≤ Rows.uptoBulk y2.1 := b2
  have z3 : 1 ≤ Rows.uptoBulk y3.1 := b3
  have z4 : 1 ≤ Rows.uptoBulk y4.1 := b4
  simp only [Rows.uptoBulk, Rows.uptoBulkAll, List.map_cons, List.map_nil]
  omega
theorem opens_In_l : Opens (List In) Tryz.prog 158 := opens_list Tryz.underlying158 (by kernel_rfl) (by kernel_rfl) opens_In

instance : Meas Fn where
  bytes := 72
  fits M x := Meas.fits M x.caught ∧ Meas.fits M x.code
  blk x := 1 + 1 + 1 + 1 + Meas.blk x.caught + Meas.blk x.code
instance : Inhabited Fn := ⟨⟨default, default, default, default, default⟩⟩
theorem opens_Fn : Opens Fn Tryz.prog 160 := by
  refine ⟨by kernel_rfl, by kernel_rfl, by decide, ?_⟩
  intro H enc w spare held fuel cs x h
  obtain ⟨xs, n, -, rfl, hl, hxl, hf⟩ := DataW.trod_struct Tryz.underlying160 h
  have hl1 : cs.length = 4 + 1 := hl.trans (by kernel_rfl)
  have hx1 : xs.length = 4 + 1 := hxl
  obtain ⟨c0, r0, rfl, hl2⟩ := lenS hl1
  obtain ⟨c1, r1, rfl, hl3⟩ := lenS hl2
  obtain ⟨c2, r2, rfl, hl4⟩ := lenS hl3
  obtain ⟨c3, r3, rfl, hl5⟩ := lenS hl4
  obtain ⟨c4, rfl⟩ := len1 hl5
  obtain ⟨y0, s0, rfl, hx2⟩ := lenS hx1
  obtain ⟨y1, s1, rfl, hx3⟩ := lenS hx2
  obtain ⟨y2, s2, rfl, hx4⟩ := lenS hx3
  obtain ⟨y3, s3, rfl, hx5⟩ := lenS hx4
  obtain ⟨y4, rfl⟩ := len1 hx5
  have g0 : DataW.trod enc Tryz.prog w 0 spare held n 3 (([c0, c1, c2, c3, c4].drop 0).take (Tryz.prog.cellsOf 3)) = some y0 := hf 0 _ rfl
  have g1 : DataW.trod enc Tryz.prog w 0 spare held n 3 (([c0, c1, c2, c3, c4].drop 1).take (Tryz.prog.cellsOf 3)) = some y1 := hf 1 _ rfl
  have g2 : DataW.trod enc Tryz.prog w 0 spare held n 4 (([c0, c1, c2, c3, c4].drop 2).take (Tryz.prog.cellsOf 4)) = some y2 := hf 2 _ rfl
  have g3 : DataW.trod enc Tryz.prog w 0 spare held n 34 (([c0, c1, c2, c3, c4].drop 3).take (Tryz.prog.cellsOf 34)) = some y3 := hf 3 _ rfl
  have g4 : DataW.trod enc Tryz.prog w 0 spare held n 158 (([c0, c1, c2, c3, c4].drop 4).take (Tryz.prog.cellsOf 158)) = some y4 := hf 4 _ rfl
  rw [show Tryz.prog.cellsOf 3 = 1 from opens_Int.2.1] at g0
  obtain ⟨a0, q0, f0, b0⟩ := opens_Int.2.2.2 _ _ _ _ _ _ _ _ g0
  obtain ⟨e0, i0⟩ := q0
  injection e0 with e0; subst e0
  rw [show Tryz.prog.cellsOf 3 = 1 from opens_Int.2.1] at g1
  obtain ⟨a1, q1, f1, b1⟩ := opens_Int.2.2.2 _ _ _ _ _ _ _ _ g1
  obtain ⟨e1, i1⟩ := q1
  injection e1 with e1; subst e1
  rw [show Tryz.prog.cellsOf 4 = 1 from opens_Bool.2.1] at g2
  obtain ⟨a2, q2, f2, b2⟩ := opens_Bool.2.2.2 _ _ _ _ _ _ _ _ g2
  obtain ⟨e2, -⟩ := q2
  injection e2 with e2; subst e2
  rw [show Tryz.prog.cellsOf 34 = 1 from opens_LInt.2.1] at g3
  obtain ⟨a3, q3, f3, b3⟩ := opens_LInt.2.2.2 _ _ _ _ _ _ _ _ g3
  rw [show Tryz.prog.cellsOf 158 = 1 from opens_In_l.2.1] at g4
  obtain ⟨a4, q4, f4, b4⟩ := opens_In_l.2.2.2 _ _ _ _ _ _ _ _ g4
  refine ⟨⟨a0, a1, a2, a3, a4⟩, ⟨c3, c4, rfl, i0, i1, q3, q4⟩, fun M hM => ⟨f3 M fun m hm => hM m (by simp [DataW.weights, DataW.weightsEach, Tryz.underlying160, hm]), f4 M fun m hm => hM m (by simp [DataW.weights, DataW.weightsEach, Tryz.underlying160, hm])⟩, ?_⟩
  have t_ : Meas.blk a0 ≤ Rows.uptoBulk y0.1 ∧ Meas.blk a1 ≤ Rows.uptoBulk y1.1 ∧ Meas.blk a2 ≤ Rows.uptoBulk y2.1 ∧ Meas.blk a3 ≤ Rows.uptoBulk y3.1 ∧ Meas.blk a4 ≤ Rows.uptoBulk y4.1 := ⟨b0, b1, b2, b3, b4⟩
  show 1 + 1 + 1 + 1 + Meas.blk a3 + Meas.blk a4 ≤ _
  have z0 : 1 ≤ Rows.uptoBulk y0.1 := b0
  have z1 : 1 ≤ Rows.uptoBulk y1.1 := b1
  have z2 : 1 ≤ Rows.uptoBulk y2.1 := b2
  simp only [Rows.uptoBulk, Rows.uptoBulkAll, List.map_cons, List.map_nil]
  omega
theorem opens_Fn_l : Opens (List Fn) Tryz.prog 22 := opens_list Tryz.underlying22 (by kernel_rfl) (by kernel_rfl) opens_Fn

theorem opens_P_Val : Opens (Int × Int) Tryz.prog 48 := by
  refine ⟨by kernel_rfl, by kernel_rfl, by decide, ?_⟩
  intro H enc w spare held fuel cs x h
  obtain ⟨xs, n, -, rfl, hl, hxl, hf⟩ := DataW.trod_struct Tryz.underlying48 h
  have hl' : cs.length = 1 + 1 := hl.trans (by kernel_rfl)
  have hxl' : xs.length = 1 + 1 := hxl
  obtain ⟨c0, r, rfl, hl2⟩ := lenS hl'
  obtain ⟨c1, rfl⟩ := len1 hl2
  obtain ⟨y0, s, rfl, hxl2⟩ := lenS hxl'
  obtain ⟨y1, rfl⟩ := len1 hxl2
  have g0 : DataW.trod enc Tryz.prog w 0 spare held n 3 (([c0, c1].drop 0).take (Tryz.prog.cellsOf 3)) = some y0 := hf 0 _ rfl
  have g1 : DataW.trod enc Tryz.prog w 0 spare held n 3 (([c0, c1].drop 1).take (Tryz.prog.cellsOf 3)) = some y1 := hf 1 _ rfl
  rw [show Tryz.prog.cellsOf 3 = 1 from opens_Int.2.1] at g0 g1
  obtain ⟨a0, ⟨e0, i0⟩, -, -⟩ := opens_Int.2.2.2 _ _ _ _ _ _ _ _ g0
  obtain ⟨a1, ⟨e1, i1⟩, -, -⟩ := opens_Int.2.2.2 _ _ _ _ _ _ _ _ g1
  injection e0 with e0; subst e0
  injection e1 with e1; subst e1
  refine ⟨(a0, a1), ⟨rfl, i0, i1⟩, fun _ _ => trivial, ?_⟩
  have b0 := bulk_pos y0.1
  have b1 := bulk_pos y1.1
  simp only [Meas.blk, Rows.uptoBulk, Rows.uptoBulkAll, List.map_cons, List.map_nil]
  omega
theorem opens_P_Val_l : Opens (List (Int × Int)) Tryz.prog 23 := opens_list Tryz.underlying23 (by kernel_rfl) (by kernel_rfl) opens_P_Val

theorem opens_Str : Opens ByteArray Tryz.prog 9 := opens_string Tryz.underlying9 (by kernel_rfl) (by kernel_rfl)
theorem opens_LStr : Opens (List ByteArray) Tryz.prog 24 := opens_list Tryz.underlying24 (by kernel_rfl) (by kernel_rfl) opens_Str

instance : Meas Pg where
  bytes := 72
  fits M x := Meas.fits M x.fns ∧ Meas.fits M x.consts ∧ Meas.fits M x.texts
  blk x := 1 + Meas.blk x.fns + Meas.blk x.consts + Meas.blk x.texts
instance : Inhabited Pg := ⟨⟨default, default, default⟩⟩
theorem opens_Pg : Opens Pg Tryz.prog 26 := by
  refine ⟨by kernel_rfl, by kernel_rfl, by decide, ?_⟩
  intro H enc w spare held fuel cs x h
  obtain ⟨xs, n, -, rfl, hl, hxl, hf⟩ := DataW.trod_struct Tryz.underlying26 h
  have hl1 : cs.length = 2 + 1 := hl.trans (by kernel_rfl)
  have hx1 : xs.length = 2 + 1 := hxl
  obtain ⟨c0, r0, rfl, hl2⟩ := lenS hl1
  obtain ⟨c1, r1, rfl, hl3⟩ := lenS hl2
  obtain ⟨c2, rfl⟩ := len1 hl3
  obtain ⟨y0, s0, rfl, hx2⟩ := lenS hx1
  obtain ⟨y1, s1, rfl, hx3⟩ := lenS hx2
  obtain ⟨y2, rfl⟩ := len1 hx3
  have g0 : DataW.trod enc Tryz.prog w 0 spare held n 22 (([c0, c1, c2].drop 0).take (Tryz.prog.cellsOf 22)) = some y0 := hf 0 _ rfl
  have g1 : DataW.trod enc Tryz.prog w 0 spare held n 23 (([c0, c1, c2].drop 1).take (Tryz.prog.cellsOf 23)) = some y1 := hf 1 _ rfl
  have g2 : DataW.trod enc Tryz.prog w 0 spare held n 24 (([c0, c1, c2].drop 2).take (Tryz.prog.cellsOf 24)) = some y2 := hf 2 _ rfl
  rw [show Tryz.prog.cellsOf 22 = 1 from opens_Fn_l.2.1] at g0
  obtain ⟨a0, q0, f0, b0⟩ := opens_Fn_l.2.2.2 _ _ _ _ _ _ _ _ g0
  rw [show Tryz.prog.cellsOf 23 = 1 from opens_P_Val_l.2.1] at g1
  obtain ⟨a1, q1, f1, b1⟩ := opens_P_Val_l.2.2.2 _ _ _ _ _ _ _ _ g1
  rw [show Tryz.prog.cellsOf 24 = 1 from opens_LStr.2.1] at g2
  obtain ⟨a2, q2, f2, b2⟩ := opens_LStr.2.2.2 _ _ _ _ _ _ _ _ g2
  refine ⟨⟨a0, a1, a2⟩, ⟨c0, c1, c2, rfl, q0, q1, q2⟩, fun M hM => ⟨f0 M fun m hm => hM m (by simp [DataW.weights, DataW.weightsEach, Tryz.underlying26, hm]), f1 M fun m hm => hM m (by simp [DataW.weights, DataW.weightsEach, Tryz.underlying26, hm]), f2 M fun m hm => hM m (by simp [DataW.weights, DataW.weightsEach, Tryz.underlying26, hm])⟩, ?_⟩
  have t_ : Meas.blk a0 ≤ Rows.uptoBulk y0.1 ∧ Meas.blk a1 ≤ Rows.uptoBulk y1.1 ∧ Meas.blk a2 ≤ Rows.uptoBulk y2.1 := ⟨b0, b1, b2⟩
  show 1 + Meas.blk a0 + Meas.blk a1 + Meas.blk a2 ≤ _
  simp only [Rows.uptoBulk, Rows.uptoBulkAll, List.map_cons, List.map_nil]
  omega

theorem opens_P_Try : Opens (Int × Int) Tryz.prog 200 := by
  refine ⟨by kernel_rfl, by kernel_rfl, by decide, ?_⟩
  intro H enc w spare held fuel cs x h
  obtain ⟨xs, n, -, rfl, hl, hxl, hf⟩ := DataW.trod_struct Tryz.underlying200 h
  have hl' : cs.length = 1 + 1 := hl.trans (by kernel_rfl)
  have hxl' : xs.length = 1 + 1 := hxl
  obtain ⟨c0, r, rfl, hl2⟩ := lenS hl'
  obtain ⟨c1, rfl⟩ := len1 hl2
  obtain ⟨y0, s, rfl, hxl2⟩ := lenS hxl'
  obtain ⟨y1, rfl⟩ := len1 hxl2
  have g0 : DataW.trod enc Tryz.prog w 0 spare held n 3 (([c0, c1].drop 0).take (Tryz.prog.cellsOf 3)) = some y0 := hf 0 _ rfl
  have g1 : DataW.trod enc Tryz.prog w 0 spare held n 3 (([c0, c1].drop 1).take (Tryz.prog.cellsOf 3)) = some y1 := hf 1 _ rfl
  rw [show Tryz.prog.cellsOf 3 = 1 from opens_Int.2.1] at g0 g1
  obtain ⟨a0, ⟨e0, i0⟩, -, -⟩ := opens_Int.2.2.2 _ _ _ _ _ _ _ _ g0
  obtain ⟨a1, ⟨e1, i1⟩, -, -⟩ := opens_Int.2.2.2 _ _ _ _ _ _ _ _ g1
  injection e0 with e0; subst e0
  injection e1 with e1; subst e1
  refine ⟨(a0, a1), ⟨rfl, i0, i1⟩, fun _ _ => trivial, ?_⟩
  have b0 := bulk_pos y0.1
  have b1 := bulk_pos y1.1
  simp only [Meas.blk, Rows.uptoBulk, Rows.uptoBulkAll, List.map_cons, List.map_nil]
  omega
theorem opens_P_Try_l : Opens (List (Int × Int)) Tryz.prog 139 := opens_list Tryz.underlying139 (by kernel_rfl) (by kernel_rfl) opens_P_Try

instance : Meas Fr where
  bytes := 96
  fits M x := Meas.fits M x.regs ∧ Meas.fits M x.tries
  blk x := 1 + 1 + 1 + 1 + 1 + 3 + Meas.blk x.regs + Meas.blk x.tries
instance : Inhabited Fr := ⟨⟨default, default, default, default, default, default, default⟩⟩
theorem opens_Fr : Opens Fr Tryz.prog 141 := by
  refine ⟨by kernel_rfl, by kernel_rfl, by decide, ?_⟩
  intro H enc w spare held fuel cs x h
  obtain ⟨xs, n, -, rfl, hl, hxl, hf⟩ := DataW.trod_struct Tryz.underlying141 h
  have hl1 : cs.length = 7 + 1 := hl.trans (by kernel_rfl)
  have hx1 : xs.length = 6 + 1 := hxl
  obtain ⟨c0, r0, rfl, hl2⟩ := lenS hl1
  obtain ⟨c1, r1, rfl, hl3⟩ := lenS hl2
  obtain ⟨c2, r2, rfl, hl4⟩ := lenS hl3
  obtain ⟨c3, r3, rfl, hl5⟩ := lenS hl4
  obtain ⟨c4, r4, rfl, hl6⟩ := lenS hl5
  obtain ⟨c5, r5, rfl, hl7⟩ := lenS hl6
  obtain ⟨c6, r6, rfl, hl8⟩ := lenS hl7
  obtain ⟨c7, rfl⟩ := len1 hl8
  obtain ⟨y0, s0, rfl, hx2⟩ := lenS hx1
  obtain ⟨y1, s1, rfl, hx3⟩ := lenS hx2
  obtain ⟨y2, s2, rfl, hx4⟩ := lenS hx3
  obtain ⟨y3, s3, rfl, hx5⟩ := lenS hx4
  obtain ⟨y4, s4, rfl, hx6⟩ := lenS hx5
  obtain ⟨y5, s5, rfl, hx7⟩ := lenS hx6
  obtain ⟨y6, rfl⟩ := len1 hx7
  have g0 : DataW.trod enc Tryz.prog w 0 spare held n 3 (([c0, c1, c2, c3, c4, c5, c6, c7].drop 0).take (Tryz.prog.cellsOf 3)) = some y0 := hf 0 _ rfl
  have g1 : DataW.trod enc Tryz.prog w 0 spare held n 3 (([c0, c1, c2, c3, c4, c5, c6, c7].drop 1).take (Tryz.prog.cellsOf 3)) = some y1 := hf 1 _ rfl
  have g2 : DataW.trod enc Tryz.prog w 0 spare held n 3 (([c0, c1, c2, c3, c4, c5, c6, c7].drop 2).take (Tryz.prog.cellsOf 3)) = some y2 := hf 2 _ rfl
  have g3 : DataW.trod enc Tryz.prog w 0 spare held n 3 (([c0, c1, c2, c3, c4, c5, c6, c7].drop 3).take (Tryz.prog.cellsOf 3)) = some y3 := hf 3 _ rfl
  have g4 : DataW.trod enc Tryz.prog w 0 spare held n 48 (([c0, c1, c2, c3, c4, c5, c6, c7].drop 4).take (Tryz.prog.cellsOf 48)) = some y4 := hf 4 _ rfl
  have g5 : DataW.trod enc Tryz.prog w 0 spare held n 23 (([c0, c1, c2, c3, c4, c5, c6, c7].drop 6).take (Tryz.prog.cellsOf 23)) = some y5 := hf 5 _ rfl
  have g6 : DataW.trod enc Tryz.prog w 0 spare held n 139 (([c0, c1, c2, c3, c4, c5, c6, c7].drop 7).take (Tryz.prog.cellsOf 139)) = some y6 := hf 6 _ rfl
  rw [show Tryz.prog.cellsOf 3 = 1 from opens_Int.2.1] at g0
  obtain ⟨a0, q0, f0, b0⟩ := opens_Int.2.2.2 _ _ _ _ _ _ _ _ g0
  obtain ⟨e0, i0⟩ := q0
  injection e0 with e0; subst e0
  rw [show Tryz.prog.cellsOf 3 = 1 from opens_Int.2.1] at g1
  obtain ⟨a1, q1, f1, b1⟩ := opens_Int.2.2.2 _ _ _ _ _ _ _ _ g1
  obtain ⟨e1, i1⟩ := q1
  injection e1 with e1; subst e1
  rw [show Tryz.prog.cellsOf 3 = 1 from opens_Int.2.1] at g2
  obtain ⟨a2, q2, f2, b2⟩ := opens_Int.2.2.2 _ _ _ _ _ _ _ _ g2
  obtain ⟨e2, i2⟩ := q2
  injection e2 with e2; subst e2
  rw [show Tryz.prog.cellsOf 3 = 1 from opens_Int.2.1] at g3
  obtain ⟨a3, q3, f3, b3⟩ := opens_Int.2.2.2 _ _ _ _ _ _ _ _ g3
  obtain ⟨e3, i3⟩ := q3
  injection e3 with e3; subst e3
  rw [show Tryz.prog.cellsOf 48 = 2 from opens_P_Val.2.1] at g4
  obtain ⟨a4, q4, f4, b4⟩ := opens_P_Val.2.2.2 _ _ _ _ _ _ _ _ g4
  obtain ⟨e4, i4⟩ := q4
  injection e4 with e4 k4; injection k4 with k4; subst e4 k4
  rw [show Tryz.prog.cellsOf 23 = 1 from opens_P_Val_l.2.1] at g5
  obtain ⟨a5, q5, f5, b5⟩ := opens_P_Val_l.2.2.2 _ _ _ _ _ _ _ _ g5
  rw [show Tryz.prog.cellsOf 139 = 1 from opens_P_Try_l.2.1] at g6
  obtain ⟨a6, q6, f6, b6⟩ := opens_P_Try_l.2.2.2 _ _ _ _ _ _ _ _ g6
  refine ⟨⟨a0, a1, a2, a3, a4, a5, a6⟩, ⟨c6, c7, rfl, i0, i1, i2, i3, i4.1, i4.2, q5, q6⟩, fun M hM => ⟨f5 M fun m hm => hM m (by simp [DataW.weights, DataW.weightsEach, Tryz.underlying141, hm]), f6 M fun m hm => hM m (by simp [DataW.weights, DataW.weightsEach, Tryz.underlying141, hm])⟩, ?_⟩
  have t_ : Meas.blk a0 ≤ Rows.uptoBulk y0.1 ∧ Meas.blk a1 ≤ Rows.uptoBulk y1.1 ∧ Meas.blk a2 ≤ Rows.uptoBulk y2.1 ∧ Meas.blk a3 ≤ Rows.uptoBulk y3.1 ∧ Meas.blk a4 ≤ Rows.uptoBulk y4.1 ∧ Meas.blk a5 ≤ Rows.uptoBulk y5.1 ∧ Meas.blk a6 ≤ Rows.uptoBulk y6.1 := ⟨b0, b1, b2, b3, b4, b5, b6⟩
  show 1 + 1 + 1 + 1 + 1 + 3 + Meas.blk a5 + Meas.blk a6 ≤ _
  have z0 : 1 ≤ Rows.uptoBulk y0.1 := b0
  have z1 : 1 ≤ Rows.uptoBulk y1.1 := b1
  have z2 : 1 ≤ Rows.uptoBulk y2.1 := b2
  have z3 : 1 ≤ Rows.uptoBulk y3.1 := b3
  have z4 : 3 ≤ Rows.uptoBulk y4.1 := b4
  simp only [Rows.uptoBulk, Rows.uptoBulkAll, List.map_cons, List.map_nil]
  omega
theorem opens_Fr_l : Opens (List Fr) Tryz.prog 44 := opens_list Tryz.underlying44 (by kernel_rfl) (by kernel_rfl) opens_Fr

instance : Meas Ce where
  bytes := 64
  fits M x := Meas.fits M x.vals ∧ Meas.fits M x.frames
  blk x := 1 + 1 + 1 + Meas.blk x.vals + Meas.blk x.frames
instance : Inhabited Ce := ⟨⟨default, default, default, default⟩⟩
theorem opens_Ce : Opens Ce Tryz.prog 46 := by
  refine ⟨by kernel_rfl, by kernel_rfl, by decide, ?_⟩
  intro H enc w spare held fuel cs x h
  obtain ⟨xs, n, -, rfl, hl, hxl, hf⟩ := DataW.trod_struct Tryz.underlying46 h
  have hl1 : cs.length = 3 + 1 := hl.trans (by kernel_rfl)
  have hx1 : xs.length = 3 + 1 := hxl
  obtain ⟨c0, r0, rfl, hl2⟩ := lenS hl1
  obtain ⟨c1, r1, rfl, hl3⟩ := lenS hl2
  obtain ⟨c2, r2, rfl, hl4⟩ := lenS hl3
  obtain ⟨c3, rfl⟩ := len1 hl4
  obtain ⟨y0, s0, rfl, hx2⟩ := lenS hx1
  obtain ⟨y1, s1, rfl, hx3⟩ := lenS hx2
  obtain ⟨y2, s2, rfl, hx4⟩ := lenS hx3
  obtain ⟨y3, rfl⟩ := len1 hx4
  have g0 : DataW.trod enc Tryz.prog w 0 spare held n 3 (([c0, c1, c2, c3].drop 0).take (Tryz.prog.cellsOf 3)) = some y0 := hf 0 _ rfl
  have g1 : DataW.trod enc Tryz.prog w 0 spare held n 3 (([c0, c1, c2, c3].drop 1).take (Tryz.prog.cellsOf 3)) = some y1 := hf 1 _ rfl
  have g2 : DataW.trod enc Tryz.prog w 0 spare held n 23 (([c0, c1, c2, c3].drop 2).take (Tryz.prog.cellsOf 23)) = some y2 := hf 2 _ rfl
  have g3 : DataW.trod enc Tryz.prog w 0 spare held n 44 (([c0, c1, c2, c3].drop 3).take (Tryz.prog.cellsOf 44)) = some y3 := hf 3 _ rfl
  rw [show Tryz.prog.cellsOf 3 = 1 from opens_Int.2.1] at g0
  obtain ⟨a0, q0, f0, b0⟩ := opens_Int.2.2.2 _ _ _ _ _ _ _ _ g0
  obtain ⟨e0, i0⟩ := q0
  injection e0 with e0; subst e0
  rw [show Tryz.prog.cellsOf 3 = 1 from opens_Int.2.1] at g1
  obtain ⟨a1, q1, f1, b1⟩ := opens_Int.2.2.2 _ _ _ _ _ _ _ _ g1
  obtain ⟨e1, i1⟩ := q1
  injection e1 with e1; subst e1
  rw [show Tryz.prog.cellsOf 23 = 1 from opens_P_Val_l.2.1] at g2
  obtain ⟨a2, q2, f2, b2⟩ := opens_P_Val_l.2.2.2 _ _ _ _ _ _ _ _ g2
  rw [show Tryz.prog.cellsOf 44 = 1 from opens_Fr_l.2.1] at g3
  obtain ⟨a3, q3, f3, b3⟩ := opens_Fr_l.2.2.2 _ _ _ _ _ _ _ _ g3
  refine ⟨⟨a0, a1, a2, a3⟩, ⟨c2, c3, rfl, i0, i1, q2, q3⟩, fun M hM => ⟨f2 M fun m hm => hM m (by simp [DataW.weights, DataW.weightsEach, Tryz.underlying46, hm]), f3 M fun m hm => hM m (by simp [DataW.weights, DataW.weightsEach, Tryz.underlying46, hm])⟩, ?_⟩
  have t_ : Meas.blk a0 ≤ Rows.uptoBulk y0.1 ∧ Meas.blk a1 ≤ Rows.uptoBulk y1.1 ∧ Meas.blk a2 ≤ Rows.uptoBulk y2.1 ∧ Meas.blk a3 ≤ Rows.uptoBulk y3.1 := ⟨b0, b1, b2, b3⟩
  show 1 + 1 + 1 + Meas.blk a2 + Meas.blk a3 ≤ _
  have z0 : 1 ≤ Rows.uptoBulk y0.1 := b0
  have z1 : 1 ≤ Rows.uptoBulk y1.1 := b1
  simp only [Rows.uptoBulk, Rows.uptoBulkAll, List.map_cons, List.map_nil]
  omega
theorem opens_Ce_l : Opens (List Ce) Tryz.prog 27 := opens_list Tryz.underlying27 (by kernel_rfl) (by kernel_rfl) opens_Ce

theorem opens_P_Shape : Opens (Int × Int) Tryz.prog 121 := by
  refine ⟨by kernel_rfl, by kernel_rfl, by decide, ?_⟩
  intro H enc w spare held fuel cs x h
  obtain ⟨xs, n, -, rfl, hl, hxl, hf⟩ := DataW.trod_struct Tryz.underlying121 h
  have hl' : cs.length = 1 + 1 := hl.trans (by kernel_rfl)
  have hxl' : xs.length = 1 + 1 := hxl
  obtain ⟨c0, r, rfl, hl2⟩ := lenS hl'
  obtain ⟨c1, rfl⟩ := len1 hl2
  obtain ⟨y0, s, rfl, hxl2⟩ := lenS hxl'
  obtain ⟨y1, rfl⟩ := len1 hxl2
  have g0 : DataW.trod enc Tryz.prog w 0 spare held n 3 (([c0, c1].drop 0).take (Tryz.prog.cellsOf 3)) = some y0 := hf 0 _ rfl
  have g1 : DataW.trod enc Tryz.prog w 0 spare held n 3 (([c0, c1].drop 1).take (Tryz.prog.cellsOf 3)) = some y1 := hf 1 _ rfl
  rw [show Tryz.prog.cellsOf 3 = 1 from opens_Int.2.1] at g0 g1
  obtain ⟨a0, ⟨e0, i0⟩, -, -⟩ := opens_Int.2.2.2 _ _ _ _ _ _ _ _ g0
  obtain ⟨a1, ⟨e1, i1⟩, -, -⟩ := opens_Int.2.2.2 _ _ _ _ _ _ _ _ g1
  injection e0 with e0; subst e0
  injection e1 with e1; subst e1
  refine ⟨(a0, a1), ⟨rfl, i0, i1⟩, fun _ _ => trivial, ?_⟩
  have b0 := bulk_pos y0.1
  have b1 := bulk_pos y1.1
  simp only [Meas.blk, Rows.uptoBulk, Rows.uptoBulkAll, List.map_cons, List.map_nil]
  omega
theorem opens_P_Shape_l : Opens (List (Int × Int)) Tryz.prog 28 := opens_list Tryz.underlying28 (by kernel_rfl) (by kernel_rfl) opens_P_Shape

instance : Meas Th where
  bytes := 56
  fits M x := Meas.fits M x.frames
  blk x := 1 + Meas.blk x.frames + 1 + 1 + 3
instance : Inhabited Th := ⟨⟨default, default, default, default⟩⟩
theorem opens_Th : Opens Th Tryz.prog 98 := by
  refine ⟨by kernel_rfl, by kernel_rfl, by decide, ?_⟩
  intro H enc w spare held fuel cs x h
  obtain ⟨xs, n, -, rfl, hl, hxl, hf⟩ := DataW.trod_struct Tryz.underlying98 h
  have hl1 : cs.length = 4 + 1 := hl.trans (by kernel_rfl)
  have hx1 : xs.length = 3 + 1 := hxl
  obtain ⟨c0, r0, rfl, hl2⟩ := lenS hl1
  obtain ⟨c1, r1, rfl, hl3⟩ := lenS hl2
  obtain ⟨c2, r2, rfl, hl4⟩ := lenS hl3
  obtain ⟨c3, r3, rfl, hl5⟩ := lenS hl4
  obtain ⟨c4, rfl⟩ := len1 hl5
  obtain ⟨y0, s0, rfl, hx2⟩ := lenS hx1
  obtain ⟨y1, s1, rfl, hx3⟩ := lenS hx2
  obtain ⟨y2, s2, rfl, hx4⟩ := lenS hx3
  obtain ⟨y3, rfl⟩ := len1 hx4
  have g0 : DataW.trod enc Tryz.prog w 0 spare held n 44 (([c0, c1, c2, c3, c4].drop 0).take (Tryz.prog.cellsOf 44)) = some y0 := hf 0 _ rfl
  have g1 : DataW.trod enc Tryz.prog w 0 spare held n 3 (([c0, c1, c2, c3, c4].drop 1).take (Tryz.prog.cellsOf 3)) = some y1 := hf 1 _ rfl
  have g2 : DataW.trod enc Tryz.prog w 0 spare held n 3 (([c0, c1, c2, c3, c4].drop 2).take (Tryz.prog.cellsOf 3)) = some y2 := hf 2 _ rfl
  have g3 : DataW.trod enc Tryz.prog w 0 spare held n 48 (([c0, c1, c2, c3, c4].drop 3).take (Tryz.prog.cellsOf 48)) = some y3 := hf 3 _ rfl
  rw [show Tryz.prog.cellsOf 44 = 1 from opens_Fr_l.2.1] at g0
  obtain ⟨a0, q0, f0, b0⟩ := opens_Fr_l.2.2.2 _ _ _ _ _ _ _ _ g0
  rw [show Tryz.prog.cellsOf 3 = 1 from opens_Int.2.1] at g1
  obtain ⟨a1, q1, f1, b1⟩ := opens_Int.2.2.2 _ _ _ _ _ _ _ _ g1
  obtain ⟨e1, i1⟩ := q1
  injection e1 with e1; subst e1
  rw [show Tryz.prog.cellsOf 3 = 1 from opens_Int.2.1] at g2
  obtain ⟨a2, q2, f2, b2⟩ := opens_Int.2.2.2 _ _ _ _ _ _ _ _ g2
  obtain ⟨e2, i2⟩ := q2
  injection e2 with e2; subst e2
  rw [show Tryz.prog.cellsOf 48 = 2 from opens_P_Val.2.1] at g3
  obtain ⟨a3, q3, f3, b3⟩ := opens_P_Val.2.2.2 _ _ _ _ _ _ _ _ g3
  obtain ⟨e3, i3⟩ := q3
  injection e3 with e3 k3; injection k3 with k3; subst e3 k3
  refine ⟨⟨a0, a1, a2, a3⟩, ⟨c0, rfl, q0, i1, i2, i3.1, i3.2⟩, fun M hM => f0 M fun m hm => hM m (by simp [DataW.weights, DataW.weightsEach, Tryz.underlying98, hm]), ?_⟩
  have t_ : Meas.blk a0 ≤ Rows.uptoBulk y0.1 ∧ Meas.blk a1 ≤ Rows.uptoBulk y1.1 ∧ Meas.blk a2 ≤ Rows.uptoBulk y2.1 ∧ Meas.blk a3 ≤ Rows.uptoBulk y3.1 := ⟨b0, b1, b2, b3⟩
  show 1 + Meas.blk a0 + 1 + 1 + 3 ≤ _
  have z1 : 1 ≤ Rows.uptoBulk y1.1 := b1
  have z2 : 1 ≤ Rows.uptoBulk y2.1 := b2
  have z3 : 3 ≤ Rows.uptoBulk y3.1 := b3
  simp only [Rows.uptoBulk, Rows.uptoBulkAll, List.map_cons, List.map_nil]
  omega
theorem opens_Th_l : Opens (List Th) Tryz.prog 29 := opens_list Tryz.underlying29 (by kernel_rfl) (by kernel_rfl) opens_Th

instance : Meas En where
  bytes := 24
  fits _M _x := True
  blk _x := 1 + 1 + 3
instance : Inhabited En := ⟨⟨default, default⟩⟩
theorem opens_En : Opens En Tryz.prog 127 := by
  refine ⟨by kernel_rfl, by kernel_rfl, by decide, ?_⟩
  intro H enc w spare held fuel cs x h
  obtain ⟨xs, n, -, rfl, hl, hxl, hf⟩ := DataW.trod_struct Tryz.underlying127 h
  have hl1 : cs.length = 2 + 1 := hl.trans (by kernel_rfl)
  have hx1 : xs.length = 1 + 1 := hxl
  obtain ⟨c0, r0, rfl, hl2⟩ := lenS hl1
  obtain ⟨c1, r1, rfl, hl3⟩ := lenS hl2
  obtain ⟨c2, rfl⟩ := len1 hl3
  obtain ⟨y0, s0, rfl, hx2⟩ := lenS hx1
  obtain ⟨y1, rfl⟩ := len1 hx2
  have g0 : DataW.trod enc Tryz.prog w 0 spare held n 3 (([c0, c1, c2].drop 0).take (Tryz.prog.cellsOf 3)) = some y0 := hf 0 _ rfl
  have g1 : DataW.trod enc Tryz.prog w 0 spare held n 48 (([c0, c1, c2].drop 1).take (Tryz.prog.cellsOf 48)) = some y1 := hf 1 _ rfl
  rw [show Tryz.prog.cellsOf 3 = 1 from opens_Int.2.1] at g0
  obtain ⟨a0, q0, f0, b0⟩ := opens_Int.2.2.2 _ _ _ _ _ _ _ _ g0
  obtain ⟨e0, i0⟩ := q0
  injection e0 with e0; subst e0
  rw [show Tryz.prog.cellsOf 48 = 2 from opens_P_Val.2.1] at g1
  obtain ⟨a1, q1, f1, b1⟩ := opens_P_Val.2.2.2 _ _ _ _ _ _ _ _ g1
  obtain ⟨e1, i1⟩ := q1
  injection e1 with e1 k1; injection k1 with k1; subst e1 k1
  refine ⟨⟨a0, a1⟩, ⟨rfl, i0, i1.1, i1.2⟩, fun M hM => trivial, ?_⟩
  have t_ : Meas.blk a0 ≤ Rows.uptoBulk y0.1 ∧ Meas.blk a1 ≤ Rows.uptoBulk y1.1 := ⟨b0, b1⟩
  show 1 + 1 + 3 ≤ _
  have z0 : 1 ≤ Rows.uptoBulk y0.1 := b0
  have z1 : 3 ≤ Rows.uptoBulk y1.1 := b1
  simp only [Rows.uptoBulk, Rows.uptoBulkAll, List.map_cons, List.map_nil]
  omega
theorem opens_En_l : Opens (List En) Tryz.prog 30 := opens_list Tryz.underlying30 (by kernel_rfl) (by kernel_rfl) opens_En

instance : Meas Stt where
  bytes := 160
  fits M x := Meas.fits M x.cells ∧ Meas.fits M x.shapes ∧ Meas.fits M x.texts ∧ Meas.fits M x.threads ∧ Meas.fits M x.ends ∧ Meas.fits M x.said
  blk x := 1 + Meas.blk x.cells + Meas.blk x.shapes + Meas.blk x.texts + Meas.blk x.threads + Meas.blk x.ends + Meas.blk x.said + 1 + 1
instance : Inhabited Stt := ⟨⟨default, default, default, default, default, default, default, default⟩⟩
theorem opens_Stt : Opens Stt Tryz.prog 32 := by
  refine ⟨by kernel_rfl, by kernel_rfl, by decide, ?_⟩
  intro H enc w spare held fuel cs x h
  obtain ⟨xs, n, -, rfl, hl, hxl, hf⟩ := DataW.trod_struct Tryz.underlying32 h
  have hl1 : cs.length = 7 + 1 := hl.trans (by kernel_rfl)
  have hx1 : xs.length = 7 + 1 := hxl
  obtain ⟨c0, r0, rfl, hl2⟩ := lenS hl1
  obtain ⟨c1, r1, rfl, hl3⟩ := lenS hl2
  obtain ⟨c2, r2, rfl, hl4⟩ := lenS hl3
  obtain ⟨c3, r3, rfl, hl5⟩ := lenS hl4
  obtain ⟨c4, r4, rfl, hl6⟩ := lenS hl5
  obtain ⟨c5, r5, rfl, hl7⟩ := lenS hl6
  obtain ⟨c6, r6, rfl, hl8⟩ := lenS hl7
  obtain ⟨c7, rfl⟩ := len1 hl8
  obtain ⟨y0, s0, rfl, hx2⟩ := lenS hx1
  obtain ⟨y1, s1, rfl, hx3⟩ := lenS hx2
  obtain ⟨y2, s2, rfl, hx4⟩ := lenS hx3
  obtain ⟨y3, s3, rfl, hx5⟩ := lenS hx4
  obtain ⟨y4, s4, rfl, hx6⟩ := lenS hx5
  obtain ⟨y5, s5, rfl, hx7⟩ := lenS hx6
  obtain ⟨y6, s6, rfl, hx8⟩ := lenS hx7
  obtain ⟨y7, rfl⟩ := len1 hx8
  have g0 : DataW.trod enc Tryz.prog w 0 spare held n 27 (([c0, c1, c2, c3, c4, c5, c6, c7].drop 0).take (Tryz.prog.cellsOf 27)) = some y0 := hf 0 _ rfl
  have g1 : DataW.trod enc Tryz.prog w 0 spare held n 28 (([c0, c1, c2, c3, c4, c5, c6, c7].drop 1).take (Tryz.prog.cellsOf 28)) = some y1 := hf 1 _ rfl
  have g2 : DataW.trod enc Tryz.prog w 0 spare held n 24 (([c0, c1, c2, c3, c4, c5, c6, c7].drop 2).take (Tryz.prog.cellsOf 24)) = some y2 := hf 2 _ rfl
  have g3 : DataW.trod enc Tryz.prog w 0 spare held n 29 (([c0, c1, c2, c3, c4, c5, c6, c7].drop 3).take (Tryz.prog.cellsOf 29)) = some y3 := hf 3 _ rfl
  have g4 : DataW.trod enc Tryz.prog w 0 spare held n 30 (([c0, c1, c2, c3, c4, c5, c6, c7].drop 4).take (Tryz.prog.cellsOf 30)) = some y4 := hf 4 _ rfl
  have g5 : DataW.trod enc Tryz.prog w 0 spare held n 23 (([c0, c1, c2, c3, c4, c5, c6, c7].drop 5).take (Tryz.prog.cellsOf 23)) = some y5 := hf 5 _ rfl
  have g6 : DataW.trod enc Tryz.prog w 0 spare held n 3 (([c0, c1, c2, c3, c4, c5, c6, c7].drop 6).take (Tryz.prog.cellsOf 3)) = some y6 := hf 6 _ rfl
  have g7 : DataW.trod enc Tryz.prog w 0 spare held n 3 (([c0, c1, c2, c3, c4, c5, c6, c7].drop 7).take (Tryz.prog.cellsOf 3)) = some y7 := hf 7 _ rfl
  rw [show Tryz.prog.cellsOf 27 = 1 from opens_Ce_l.2.1] at g0
  obtain ⟨a0, q0, f0, b0⟩ := opens_Ce_l.2.2.2 _ _ _ _ _ _ _ _ g0
  rw [show Tryz.prog.cellsOf 28 = 1 from opens_P_Shape_l.2.1] at g1
  obtain ⟨a1, q1, f1, b1⟩ := opens_P_Shape_l.2.2.2 _ _ _ _ _ _ _ _ g1
  rw [show Tryz.prog.cellsOf 24 = 1 from opens_LStr.2.1] at g2
  obtain ⟨a2, q2, f2, b2⟩ := opens_LStr.2.2.2 _ _ _ _ _ _ _ _ g2
  rw [show Tryz.prog.cellsOf 29 = 1 from opens_Th_l.2.1] at g3
  obtain ⟨a3, q3, f3, b3⟩ := opens_Th_l.2.2.2 _ _ _ _ _ _ _ _ g3
  rw [show Tryz.prog.cellsOf 30 = 1 from opens_En_l.2.1] at g4
  obtain ⟨a4, q4, f4, b4⟩ := opens_En_l.2.2.2 _ _ _ _ _ _ _ _ g4
  rw [show Tryz.prog.cellsOf 23 = 1 from opens_P_Val_l.2.1] at g5
  obtain ⟨a5, q5, f5, b5⟩ := opens_P_Val_l.2.2.2 _ _ _ _ _ _ _ _ g5
  rw [show Tryz.prog.cellsOf 3 = 1 from opens_Int.2.1] at g6
  obtain ⟨a6, q6, f6, b6⟩ := opens_Int.2.2.2 _ _ _ _ _ _ _ _ g6
  obtain ⟨e6, i6⟩ := q6
  injection e6 with e6; subst e6
  rw [show Tryz.prog.cellsOf 3 = 1 from opens_Int.2.1] at g7
  obtain ⟨a7, q7, f7, b7⟩ := opens_Int.2.2.2 _ _ _ _ _ _ _ _ g7
  obtain ⟨e7, i7⟩ := q7
  injection e7 with e7; subst e7
  refine ⟨⟨a0, a1, a2, a3, a4, a5, a6, a7⟩, ⟨c0, c1, c2, c3, c4, c5, rfl, q0, q1, q2, q3, q4, q5, i6, i7⟩, fun M hM => ⟨f0 M fun m hm => hM m (by simp [DataW.weights, DataW.weightsEach, Tryz.underlying32, hm]), f1 M fun m hm => hM m (by simp [DataW.weights, DataW.weightsEach, Tryz.underlying32, hm]), f2 M fun m hm => hM m (by simp [DataW.weights, DataW.weightsEach, Tryz.underlying32, hm]), f3 M fun m hm => hM m (by simp [DataW.weights, DataW.weightsEach, Tryz.underlying32, hm]), f4 M fun m hm => hM m (by simp [DataW.weights, DataW.weightsEach, Tryz.underlying32, hm]), f5 M fun m hm => hM m (by simp [DataW.weights, DataW.weightsEach, Tryz.underlying32, hm])⟩, ?_⟩
  have t_ : Meas.blk a0 ≤ Rows.uptoBulk y0.1 ∧ Meas.blk a1 ≤ Rows.uptoBulk y1.1 ∧ Meas.blk a2 ≤ Rows.uptoBulk y2.1 ∧ Meas.blk a3 ≤ Rows.uptoBulk y3.1 ∧ Meas.blk a4 ≤ Rows.uptoBulk y4.1 ∧ Meas.blk a5 ≤ Rows.uptoBulk y5.1 ∧ Meas.blk a6 ≤ Rows.uptoBulk y6.1 ∧ Meas.blk a7 ≤ Rows.uptoBulk y7.1 := ⟨b0, b1, b2, b3, b4, b5, b6, b7⟩
  show 1 + Meas.blk a0 + Meas.blk a1 + Meas.blk a2 + Meas.blk a3 + Meas.blk a4 + Meas.blk a5 + 1 + 1 ≤ _
  have z6 : 1 ≤ Rows.uptoBulk y6.1 := b6
  have z7 : 1 ≤ Rows.uptoBulk y7.1 := b7
  simp only [Rows.uptoBulk, Rows.uptoBulkAll, List.map_cons, List.map_nil]
  omega

end Go.Proofs.YtdlcooplllimeaaGreatDoor

/-
  From a law's walk to its row: the arguments read as they did; the law's post.
-/
namespace Go.Proofs.YtdlcooplllimeaaGreatDoor
open Go.RowKit Go.ChangeShapes Go.WideShapes Go.Deep

theorem prog_own : ownKnob Tryz.prog.godebug = none := by kernel_rfl
theorem prog_laidOut : laidOutB Tryz.prog = true := by kernel_rfl

theorem trodAll_below {H : Type} {enc : TypeId × Value → H} {P : Program} {W W' : World} (hl : laidOutB P = true) (hb : Below W.heap.size W W') :
    ∀ {ts : List TypeId} {vs : List Value} {ds : List (DataW H)} {ps : List MemPlace}, ts.all (fun t => P.readableRec t && decide (t < P.types.size)) = true →
      DataW.TrodAll enc P W 0 (fun _ => true) true ts vs ds ps → (∀ x ∈ ps, x.block < W.heap.size) → DataW.TrodAll enc P W' 0 (fun b => decide (b < W.heap.size)) true ts vs ds ps
  | [], [], [], ps, _, h, _ => h
  | t :: ts, v :: vs, d :: ds, ps, hr, h, hlt => by
    obtain ⟨p, q, h1, h2, rfl⟩ := h
    rw [List.all_cons, Bool.and_eq_true, Bool.and_eq_true, decide_eq_true_eq] at hr
    exact ⟨p, q, Below.trod hl hr.1.1 hr.1.2 h1 hb (fun x hx => hlt x (List.mem_append_left _ hx)), trodAll_below hl hb hr.2 h2 (fun x hx => hlt x (List.mem_append_right _ hx)), rfl⟩
  | [], _ :: _, _, _, _, h, _ => by simp [DataW.TrodAll] at h
  | [], [], _ :: _, _, _, h, _ => by simp [DataW.TrodAll] at h
  | _ :: _, [], _, _, _, h, _ => by simp [DataW.TrodAll] at h
  | _ :: _, _ :: _, [], _, _, h, _ => by simp [DataW.TrodAll] at h

/-- a law's post: it returned true, and nothing that was there has turned -/
theorem post_law {H : Type} {enc : TypeId × Value → H} {P : Program} {f : Func} {s : ChangeSpec} {W W' : World} {args : Array Value} {ds : List (DataW H)} {before : List MemPlace} {bt : TypeId}
    (hW : DataW.Whole enc P f.params.toList s.vars false W args.toList ds [] before) (hvars : s.vars = []) (hfn : s.fn H (ds ++ []) = { results := [.lit (.bool true)], args := ds }) (hres : f.resultTypes = #[bt])
    (hbt : P.underlying bt = some .bool) (hl : laidOutB P = true) (hr : f.params.toList.all (fun t => P.readableRec t && decide (t < P.types.size)) = true) (hb : Below W.heap.size W W') :
    s.post enc P f false true false false W args (.bool true) W' := by
  have hlt : ∀ x ∈ before, x.block < W.heap.size := fun x hx => hW.lt x hx
  have hW' := hW
  obtain ⟨p, q, hA, hV, rfl, -, -⟩ := hW
  rw [hvars] at hV
  obtain ⟨-, rfl⟩ := trodVars_none hV
  refine ⟨ds, [], _, [], p, [], hW', ?_, ?_, ?_, hb.frame _, fun h => by cases h⟩
  · rw [hfn, hres]
    exact trodAll_mk1 (shut_bool hbt true)
  · rw [hfn]
    exact trodAll_below hl hb hr hA (fun x hx => hlt x (by simpa using hx))
  · rw [hfn, hvars]
    rfl

/-- every weight of an argument's reading is within the reach -/
theorem weigh {H : Type} {P : Program} {ts : List TypeId} {ds : List (DataW H)} (h : (DataW.weightsEach P ts ds).all (· ≤ reachBytes) = true) {j : Nat} {t : TypeId} {d : DataW H} (ht : ts[j]? = some t) (hd : ds[j]? = some d) :
    ∀ n ∈ d.weights P t, n ≤ reachBytes := fun n hn => by
  have := List.all_eq_true.1 h n (DataW.weights_mem_each ht hd n hn)
  simpa using this

theorem agg_of {P : Program} {w : World} {r : Reach} {b : Nat} {t : TypeId} {fs : Array Field} {v : Value} (hs : P.underlying t = some (.struct fs)) (hv : Value.okWide P w r b t v) {l : List Value} (h : v.cells.toList = l) : v = .agg l.toArray := by
  obtain ⟨cs, rfl, -⟩ := okWide_struct hs hv
  subst h
  simp [Value.cells]
theorem slice_of {P : Program} {w : World} {r : Reach} {b : Nat} {t e : TypeId} {v u : Value} (hs : P.underlying t = some (.slice e)) (hv : Value.okWide P w r b t v) (h : v.cells.toList = [u]) : v = u := by
  obtain ⟨a, n, c, rfl⟩ := okWide_slice hs hv
  simpa [Value.cells] using h

end Go.Proofs.YtdlcooplllimeaaGreatDoor

/- What a bound on bulk gives, of Lean's data. -/
namespace Go.Proofs.YtdlcooplllimeaaGreatDoor
open Go.RowKit Go.ChangeShapes Go.WideShapes Go.Deep

theorem bulkAll_part {H : Type} {d : DataW H} {l : List (DataW H)} (h : d ∈ l) : Rows.uptoBulk d ≤ Rows.uptoBulkAll l := by
  induction l with
  | nil => cases h
  | cons x r ih =>
    simp only [Rows.uptoBulkAll]
    rcases List.mem_cons.1 h with e | e
    · subst e; omega
    · have := ih e; omega
theorem bulk_bound {H : Type} {l : List (DataW H)} (hk : Rows.uptoSmall H l = true) : Rows.uptoBulkAll l ≤ 1048576 := of_decide_eq_true hk
theorem bulk_of {H : Type} {d : DataW H} {l : List (DataW H)} (hk : Rows.uptoSmall H l = true) (h : d ∈ l) {n : Nat} (hn : n ≤ Rows.uptoBulk d) : n ≤ 1048576 := by
  have h1 := bulkAll_part h
  have h2 := bulk_bound hk
  omega
theorem blk_mem {α : Type} [Meas α] {l : List α} {x : α} (hx : x ∈ l) : Meas.blk x ≤ blkSum l := by
  induction l with
  | nil => cases hx
  | cons y l ih =>
    simp only [blkSum]
    rcases List.mem_cons.1 hx with e | e
    · subst e; omega
    · have := ih e; omega
theorem blk_len {α : Type} [Meas α] (h1 : ∀ x : α, 1 ≤ Meas.blk x) (l : List α) : l.length ≤ blkSum l := by
  induction l with
  | nil => simp [blkSum]
  | cons x l ih => have := h1 x; simp only [blkSum, List.length_cons]; omega
theorem blk_list {α : Type} [Meas α] (l : List α) : Meas.blk l = blkSum l + 1 := rfl
theorem blk_int : ∀ x : Int, 1 ≤ Meas.blk x := fun _ => Nat.le_refl _
theorem blk_pair : ∀ x : Int × Int, 1 ≤ Meas.blk x := fun _ => by show 1 ≤ 3; omega

end Go.Proofs.YtdlcooplllimeaaGreatDoor
