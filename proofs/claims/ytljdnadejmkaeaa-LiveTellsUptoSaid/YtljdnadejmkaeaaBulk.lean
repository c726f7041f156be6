/- What a bound on bulk gives, of Lean's data. -/
import Derived.Test.YtljdnadejmkaeaaOpens
namespace Go.Proofs.Ytljdnadejmkaeaa
open Go.RowKit Go.ChangeShapes Go.WideShapes Go.Deep

theorem bulkAll_part {H : Type} {d : DataW H} {l : List (DataW H)} (h : d ∈ l) : Rows.uptoBulk d ≤ Rows.uptoBulkAll l := by
  induction l with
  | nil => cases h
  | cons x r ih =>
    simp only [Rows.uptoBulkAll]
    rcases List.mem_cons.1 h with e | e
    · subst e; omega
    · have := ih e; omega
theorem bulk_bound {H : Type} {l : List (DataW H)} (hk : Rows.uptoSmall H l = true) : Rows.uptoBulkAll l ≤ 1048576 := of_decide_eq_true hk
theorem bulk_of {H : Type} {d : DataW H} {l : List (DataW H)} (hk : Rows.uptoSmall H l = true) (h : d ∈ l) {n : Nat} (hn : n ≤ Rows.uptoBulk d) : n ≤ 1048576 := by
  have h1 := bulkAll_part h
  have h2 := bulk_bound hk
  omega
theorem blk_mem {α : Type} [Meas α] {l : List α} {x : α} (hx : x ∈ l) : Meas.blk x ≤ blkSum l := by
  induction l with
  | nil => cases hx
  | cons y l ih =>
    simp only [blkSum]
    rcases List.mem_cons.1 hx with e | e
    · subst e; omega
    · have := ih e; omega
theorem blk_len {α : Type} [Meas α] (h1 : ∀ x : α, 1 ≤ Meas.blk x) (l : List α) : l.length ≤ blkSum l := by
  induction l with
  | nil => simp [blkSum]
  | cons x l ih => have := h1 x; simp only [blkSum, List.length_cons]; omega
theorem blk_list {α : Type} [Meas α] (l : List α) : Meas.blk l = blkSum l + 1 := rfl
theorem blk_int : ∀ x : Int, 1 ≤ Meas.blk x := fun _ => Nat.le_refl _
theorem blk_pair : ∀ x : Int × Int, 1 ≤ Meas.blk x := fun _ => by show 1 ≤ 3; omega

end Go.Proofs.Ytljdnadejmkaeaa
