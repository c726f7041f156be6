/- RF: Opens. -/
import Derived.Test.YtljdnadejmkaeaaRF1
import Derived.Test.YtljdnadejmkaeaaRows
import Derived.ProofKit
import Derived.OpenShut
import Derived.JoinedCond
import Derived.Deep.CondSized
/-
  From an argument's reading to Lean's data: what it asks of a type, and the general laws (integers, structs of integers, slices).
-/
namespace Go.Proofs.Ytljdnadejmkaeaa
open Go.RowKit Go.ChangeShapes Go.WideShapes Go.Deep

/-- how many bytes a value of the type has, whether a value's slices fit a bound on bytes, how many values it holds -/
class Meas (α : Type) where
  bytes : Nat
  fits : Nat → α → Prop
  blk : α → Nat

def blkSum {α : Type} [Meas α] : List α → Nat
  | [] => 0
  | x :: l => Meas.blk x + blkSum l

instance : Meas Int where
  bytes := 8
  fits _ _ := True
  blk _ := 1
instance : Meas (Int × Int) where
  bytes := 16
  fits _ _ := True
  blk _ := 3
instance : Meas (Int × Int × Int) where
  bytes := 24
  fits _ _ := True
  blk _ := 5
instance : Meas U64 where
  bytes := 8
  fits _ _ := True
  blk _ := 1
instance {α : Type} [Meas α] : Meas (List α) where
  bytes := 24
  fits M l := l.length * Meas.bytes α ≤ M ∧ ∀ x ∈ l, Meas.fits M x
  blk l := blkSum l + 1

theorem bulk_pos {H : Type} (d : DataW H) : 1 ≤ Rows.uptoBulk d := by
  cases d with
  | lit l => cases l <;> simp [Rows.uptoBulk]
  | nil => simp [Rows.uptoBulk]
  | ptr d => simp [Rows.uptoBulk]
  | slice elems spare => simp [Rows.uptoBulk]
  | agg parts => simp [Rows.uptoBulk]
  | iface t d => simp [Rows.uptoBulk]
  | map entries => simp [Rows.uptoBulk]
  | held h => simp [Rows.uptoBulk]

/-- a type of the program's whose every reading is Lean's data of type α -/
def Opens (α : Type) [Enc α] [Meas α] (P : Program) (t : TypeId) : Prop :=
  P.bytesOf t = Meas.bytes α ∧ P.cellsOf t = Enc.sz α ∧ 0 < Enc.sz α ∧
    ∀ (H : Type) (enc : TypeId × Value → H) (w : World) (spare : Nat → Bool) (held : Bool) (fuel : Nat) (cs : List Value) (x : DataW H × List MemPlace), DataW.trod enc P w 0 spare held fuel t cs = some x →
      ∃ a : α, Enc.rd w w.heap.size cs a ∧ (∀ M, (∀ n ∈ x.1.weights P t, n ≤ M) → Meas.fits M a) ∧ Meas.blk a ≤ Rows.uptoBulk x.1

theorem opens_int {P : Program} {t : TypeId} (ht : P.underlying t = some (.int .i64)) (hb : P.bytesOf t = 8) (hc : P.cellsOf t = 1) : Opens Int P t := by
  refine ⟨hb, hc, Nat.zero_lt_one, fun H enc w spare held fuel cs x h => ?_⟩
  obtain ⟨n, rfl, rfl, hwf⟩ := DataW.trod_int ht h
  refine ⟨n, ⟨rfl, ?_⟩, fun _ _ => trivial, bulk_pos _⟩
  have : -9223372036854775808 ≤ n ∧ n ≤ 9223372036854775807 := by simpa [Lit.wf, IntKind.min, IntKind.max, IntKind.signed, IntKind.bits] using hwf
  exact this

theorem opens_u64 {P : Program} {t : TypeId} (ht : P.underlying t = some (.int .u64)) (hb : P.bytesOf t = 8) (hc : P.cellsOf t = 1) : Opens U64 P t := by
  refine ⟨hb, hc, Nat.zero_lt_one, fun H enc w spare held fuel cs x h => ?_⟩
  obtain ⟨n, rfl, rfl, hwf⟩ := DataW.trod_int ht h
  refine ⟨⟨n⟩, ⟨rfl, ?_⟩, fun _ _ => trivial, bulk_pos _⟩
  have : 0 ≤ n ∧ n ≤ 18446744073709551615 := by simpa [Lit.wf, IntKind.min, IntKind.max, IntKind.signed, IntKind.bits] using hwf
  exact this

theorem mem_weightsAll {H : Type} {P : Program} {e : TypeId} {l : List (DataW H)} {d : DataW H} (hd : d ∈ l) : ∀ n ∈ d.weights P e, n ∈ DataW.weightsAll P e l := by
  induction l with
  | nil => cases hd
  | cons y l ih =>
    intro n hn
    simp only [DataW.weightsAll, List.mem_append]
    rcases List.mem_cons.1 hd with rfl | h
    · exact .inl hn
    · exact .inr (ih h n hn)

theorem blkSum_le {α H : Type} [Meas α] (f : Nat → α) (D : Nat → DataW H) : ∀ n, (∀ i, i < n → Meas.blk (f i) ≤ Rows.uptoBulk (D i)) → blkSum ((List.range n).map f) ≤ Rows.uptoBulkAll ((List.range n).map D) := by
  intro n
  have key : ∀ l : List Nat, (∀ i ∈ l, Meas.blk (f i) ≤ Rows.uptoBulk (D i)) → blkSum (l.map f) ≤ Rows.uptoBulkAll (l.map D) := by
    intro l
    induction l with
    | nil => intro _; simp [blkSum, Rows.uptoBulkAll]
    | cons i l ih =>
      intro h
      simp only [List.map_cons, blkSum, Rows.uptoBulkAll]
      have h1 := h i (by simp)
      have h2 := ih fun j hj => h j (by simp [hj])
      omega
  exact fun h => key _ fun i hi => h i (List.mem_range.1 hi)

theorem opens_list {α : Type} [Enc α] [Meas α] [Inhabited α] {P : Program} {t e : TypeId} (ht : P.underlying t = some (.slice e)) (hb : P.bytesOf t = 24) (hc : P.cellsOf t = 1) (he : Opens α P e) : Opens (List α) P t := by
  refine ⟨hb, hc, Nat.zero_lt_one, fun H enc w spare held fuel cs x h => ?_⟩
  rcases open_slice ht h with ⟨rfl, rfl⟩ | ⟨a, len, cap, m, n, D, Pl, rfl, hba, hl, hm, hmm, rfl, hi⟩
  · exact ⟨[], ⟨none, 0, rfl, Nat.le_refl _, by simp [maxLen], fun _ => rfl, At.nil_⟩, fun _ _ => ⟨by simp, by simp⟩, by simp [Meas.blk, blkSum, Rows.uptoBulk]⟩
  · have hlm : len ≤ m := by subst hmm; split <;> omega
    obtain ⟨f, hf⟩ := choose_lt (α := α) (n := len) (p := fun i y => ∃ cs', w.cells? 0 (a.add (i * P.cellsOf e)) (P.cellsOf e) = some cs' ∧ Enc.rd w w.heap.size cs' y ∧ (∀ M, (∀ n ∈ (D i).weights P e, n ≤ M) → Meas.fits M y) ∧ Meas.blk y ≤ Rows.uptoBulk (D i)) (fun i hil => by
      obtain ⟨cs', h1, h2⟩ := hi i (by omega)
      obtain ⟨y, hy1, hy2, hy3⟩ := he.2.2.2 H enc w spare held n cs' (D i, Pl i) h2
      exact ⟨y, cs', h1, hy1, hy2, hy3⟩)
    refine ⟨(List.range len).map f, ⟨some a, cap, by simp, by simpa using hl, hm, by simp, ?_⟩, fun M hM => ⟨?_, ?_⟩, ?_⟩
    · intro i y hy
      have hil : i < len := by
        have := (List.getElem?_eq_some_iff.1 hy).1
        simpa using this
      have hyf : y = f i := by
        rw [List.getElem?_map, List.getElem?_range hil] at hy
        simpa using hy.symm
      subst hyf
      have hspot : a.spot = none := by
        obtain ⟨cs0, h1, -, -, -⟩ := hf 0 (by omega)
        obtain ⟨-, hlen, hcell⟩ := World.cells?_some h1
        rw [he.2.1] at hlen hcell
        have h0 := hcell 0 he.2.2.1
        rw [List.getElem?_eq_getElem (by rw [hlen]; exact he.2.2.1), Nat.zero_mul] at h0
        exact World.cell?_spot (a := a) h0
      obtain ⟨cs', h1, h2, -, -⟩ := hf i hil
      obtain ⟨-, hlen, hcell⟩ := World.cells?_some h1
      rw [he.2.1] at hlen hcell h1
      obtain ⟨b, o, spot⟩ := a
      have hpos := he.2.2.1
      have h0 := hcell 0 hpos
      rw [List.getElem?_eq_getElem (by omega)] at h0
      simp only at hspot
      subst hspot
      refine ⟨b, o, cs', rfl, ?_, ?_, h2⟩
      · rw [add_mk, add_mk] at h0
        exact block_lt_of_cell h0
      · intro j u hu
        have hj : j < Enc.sz α := by rw [← hlen]; exact (List.getElem?_eq_some_iff.1 hu).1
        have := hcell j hj
        rw [add_mk, add_mk, hu] at this
        exact this
    · have h1 := hM ((len + (m - len)) * P.bytesOf e) (by simp [DataW.weights, ht])
      rw [he.1] at h1
      simp only [List.length_map, List.length_range]
      exact Nat.le_trans (Nat.mul_le_mul_right _ (by omega)) h1
    · intro y hy
      obtain ⟨i, hi', rfl⟩ := List.mem_map.1 hy
      have hil := List.mem_range.1 hi'
      obtain ⟨-, -, -, h3, -⟩ := hf i hil
      refine h3 M fun n hn => hM n ?_
      simp only [DataW.weights, ht, List.mem_cons, List.mem_append]
      exact .inr (.inl (mem_weightsAll (List.mem_map.2 ⟨i, hi', rfl⟩) n hn))
    · have h1 := blkSum_le f D len fun i hil => by
        obtain ⟨-, -, -, -, h4⟩ := hf i hil
        exact h4
      simp only [Meas.blk, Rows.uptoBulk]
      omega

/-- a list of known length, written out -/
theorem len1 {α : Type} {l : List α} (h : l.length = 1) : ∃ a, l = [a] := by
  match l, h with | [a], _ => exact ⟨a, rfl⟩
theorem lenS {α : Type} {l : List α} {n : Nat} (h : l.length = n + 1) : ∃ a r, l = a :: r ∧ r.length = n := by
  match l, h with | a :: r, h => exact ⟨a, r, rfl, by simpa using h⟩

end Go.Proofs.Ytljdnadejmkaeaa
