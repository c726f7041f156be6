/- scan: the plain functions: the least free number, the order, all places. -/
import Derived.Test.YtljdnadejmkaeaaScanL
import Derived.Test.YtljdnadejmkaeaaSortL
namespace Go.Proofs.Ytljdnadejmkaeaa
open Go.RowKit

namespace Scn
theorem pigeon : ∀ (n : Nat) (b : List Int), (∀ j : Nat, j < n → (j : Int) ∈ b) → n ≤ b.length
  | 0, _, _ => Nat.zero_le _
  | n + 1, b, h => by
    have hn := h n (Nat.lt_succ_self _)
    have h2 := pigeon n (b.erase (n : Int)) (fun j hj => by
      rw [List.mem_erase_of_ne (by omega)]
      exact h j (by omega))
    rw [List.length_erase_of_mem hn] at h2
    have := List.length_pos_of_mem hn
    omega
/-- the least number from 0 on that a list has not -/
def mex (b : List Int) : Nat := ((List.range (b.length + 1)).findIdx fun j : Nat => !b.contains (j : Int))
theorem mex_le (b : List Int) : mex b ≤ b.length := by
  have : mex b < (List.range (b.length + 1)).length := by
    unfold mex
    rw [List.findIdx_lt_length]
    by_cases h : ∃ x, x ∈ List.range (b.length + 1) ∧ (!b.contains (x : Int)) = true
    · exact h
    · exfalso
      have := pigeon (b.length + 1) b (fun j hj => by
        by_cases hc : b.contains (j : Int) = true
        · exact List.contains_iff_mem.1 hc
        · exact absurd ⟨j, List.mem_range.2 hj, by simpa using hc⟩ h)
      omega
  rw [List.length_range] at this
  omega
theorem mex_free (b : List Int) : b.contains (mex b : Int) = false := by
  have hl : mex b < (List.range (b.length + 1)).length := by rw [List.length_range]; have := mex_le b; omega
  have := List.findIdx_getElem (xs := List.range (b.length + 1)) (p := fun j : Nat => !b.contains (j : Int)) (w := hl)
  have e : ((List.range (b.length + 1))[mex b]'hl : Nat) = mex b := List.getElem_range hl
  change (!b.contains (((List.range (b.length + 1))[mex b]'hl : Nat) : Int)) = true at this
  rw [e] at this
  simpa using this
theorem mex_lt (b : List Int) (j : Nat) (h : j < mex b) : b.contains (j : Int) = true := by
  have := List.not_of_lt_findIdx (p := fun j => !b.contains ((j : Nat) : Int)) (xs := List.range (b.length + 1)) (i := j) h
  simpa using this
theorem mex_unique {b : List Int} {m : Nat} (h1 : b.contains (m : Int) = false) (h2 : ∀ j, j < m → b.contains (j : Int) = true) : mex b = m := by
  rcases Nat.lt_trichotomy (mex b) m with h | h | h
  · have := h2 _ h; rw [mex_free] at this; cases this
  · exact h
  · have := mex_lt b _ h; rw [h1] at this; cases this

theorem busy_length (l at_ : List (Int × Int)) (f : Int × Int → Int) (n : Nat) (order : List Nat) : (busy l at_ f n order).length ≤ order.length := by
  unfold busy; rw [List.length_map]; exact List.length_filter_le _ _

/-- a span's begin -/
def fr (l : List (Int × Int)) (k : Nat) : Int := (l.getD k (0, 0)).1
/-- how many at the end begin later -/
def later (l : List (Int × Int)) (v : Int) (out : List Nat) : Nat := (out.reverse.takeWhile fun k => decide (v < fr l k)).length
def ins (l : List (Int × Int)) (n : Nat) (out : List Nat) : List Nat := out.take (out.length - later l (fr l n) out) ++ n :: out.drop (out.length - later l (fr l n) out)
/-- those that count of the first m spans, by begin -/
def byFrom (l : List (Int × Int)) : Nat → List Nat
  | 0 => []
  | m + 1 => if counts (l.getD m (0, 0)) = true then ins l m (byFrom l m) else byFrom l m
/-- those that count of the first m spans -/
def counted (l : List (Int × Int)) : Nat → List Nat
  | 0 => []
  | m + 1 => if counts (l.getD m (0, 0)) = true then counted l m ++ [m] else counted l m

theorem counted_lt (l : List (Int × Int)) : ∀ m, ∀ k ∈ counted l m, k < m
  | 0, k, hk => by cases hk
  | m + 1, k, hk => by
    unfold counted at hk
    split at hk
    · rcases List.mem_append.1 hk with h | h
      · have := counted_lt l m k h; omega
      · simp at h; omega
    · have := counted_lt l m k hk; omega
theorem counted_rising (l : List (Int × Int)) : ∀ m, (counted l m).Pairwise (· < ·)
  | 0 => List.Pairwise.nil
  | m + 1 => by
    unfold counted
    split
    · refine List.pairwise_append.2 ⟨counted_rising l m, by simp, fun a ha b hb => ?_⟩
      simp at hb; subst hb; exact counted_lt l _ a ha
    · exact counted_rising l m
theorem counted_length (l : List (Int × Int)) : ∀ m, (counted l m).length ≤ m
  | 0 => Nat.le_refl _
  | (m + 1 : Nat) => by
    unfold counted
    have := counted_length l m
    split
    · simp; omega
    · omega
theorem ins_perm (l : List (Int × Int)) (n : Nat) (out : List Nat) : (ins l n out).Perm (out ++ [n]) := by
  unfold ins
  refine List.perm_middle.trans ?_
  rw [List.take_append_drop]
  exact (List.perm_append_singleton n out).symm
theorem byFrom_perm (l : List (Int × Int)) : ∀ m, (byFrom l m).Perm (counted l m)
  | 0 => List.Perm.refl _
  | m + 1 => by
    unfold byFrom counted
    split
    · exact (ins_perm l m _).trans ((byFrom_perm l m).append_right [m])
    · exact byFrom_perm l m
theorem takeWhile_len_le {α : Type} (p : α → Bool) : ∀ l : List α, (l.takeWhile p).length ≤ l.length
  | [] => Nat.le_refl _
  | a :: l => by
    rw [List.takeWhile_cons]
    have := takeWhile_len_le p l
    split <;> simp <;> omega
theorem later_le (l : List (Int × Int)) (v : Int) (out : List Nat) : later l v out ≤ out.length := by
  unfold later
  have := takeWhile_len_le (fun k => decide (v < fr l k)) out.reverse
  rw [List.length_reverse] at this; exact this
/-- those of the end begin later, the one ahead of them does not -/
theorem later_spec (l : List (Int × Int)) (v : Int) (out : List Nat) :
    (∀ k ∈ out.drop (out.length - later l v out), v < fr l k) ∧ (out.take (out.length - later l v out) = [] ∨ ∃ t, (out.take (out.length - later l v out)).getLast? = some t ∧ fr l t ≤ v) := by
  have key : ∀ r : List Nat, (∀ k ∈ r.take (r.takeWhile fun k => decide (v < fr l k)).length, v < fr l k) ∧ (r.drop (r.takeWhile fun k => decide (v < fr l k)).length = [] ∨ ∃ t, (r.drop (r.takeWhile fun k => decide (v < fr l k)).length).head? = some t ∧ fr l t ≤ v) := by
    intro r
    induction r with
    | nil => exact ⟨by simp, .inl rfl⟩
    | cons a r ih =>
      rw [List.takeWhile_cons]
      by_cases h : v < fr l a
      · simp only [h, decide_true, if_true, List.length_cons, List.take_succ_cons, List.drop_succ_cons]
        refine ⟨fun k hk => ?_, ih.2⟩
        rcases List.mem_cons.1 hk with rfl | hk
        · exact h
        · exact ih.1 k hk
      · simp only [h, decide_false]
        refine ⟨by simp, .inr ⟨a, by simp, by omega⟩⟩
  have hle := later_le l v out
  have h := key out.reverse
  have e : (out.reverse.takeWhile fun k => decide (v < fr l k)).length = later l v out := rfl
  rw [e, List.take_reverse, List.drop_reverse] at h
  refine ⟨fun k hk => h.1 k (List.mem_reverse.2 hk), ?_⟩
  rcases h.2 with h2 | ⟨t, ht, h2⟩
  · exact .inl (by simpa using h2)
  · exact .inr ⟨t, by rw [List.head?_reverse] at ht; exact ht, h2⟩

/-- two numbers as of the order -/
def frI (l : List (Int × Int)) (x : Int) : Int := (l.getD x.toNat (0, 0)).1
theorem byFrom_sorted (l : List (Int × Int)) : ∀ m, ((byFrom l m).map fun k : Nat => (k : Int)).Pairwise (Srt.R (frI l))
  | 0 => List.Pairwise.nil
  | m + 1 => by
    unfold byFrom
    split
    · have ih := byFrom_sorted l m
      have hs := later_spec l (fr l m) (byFrom l m)
      unfold ins
      rw [List.map_append, List.map_cons]
      refine Srt.put_in (v := (m : Int)) ?_ ?_ ?_ ?_
      · rw [← List.map_append, List.take_append_drop]; exact ih
      · intro t ht
        obtain ⟨k, hk, rfl⟩ := List.mem_map.1 ht
        have := counted_lt l m k ((byFrom_perm l m).mem_iff.1 (List.mem_of_mem_take hk))
        omega
      · rcases hs.2 with h | ⟨t, ht, hle⟩
        · exact .inl (by rw [h]; rfl)
        · refine .inr ⟨(t : Int), ?_, by simpa [frI, fr] using hle⟩
          rw [List.getLast?_map, ht]; rfl
      · intro t ht
        obtain ⟨k, hk, rfl⟩ := List.mem_map.1 ht
        simpa [frI, fr] using hs.1 k hk
    · exact byFrom_sorted l m

/-- the places behind one step of the slots -/
def slotStep (l : List (Int × Int)) (order : List Nat) (s : List (Int × Int) × Int) (n : Nat) : List (Int × Int) × Int :=
  if (s.1.getD n (0, 0)).1 < 0 then (s.1.set n ((s.1.getD n (0, 0)).1, (mex (busy l s.1 Prod.snd n order) : Int)), max s.2 ((mex (busy l s.1 Prod.snd n order) : Int) + 1)) else s
def takeStep (l : List (Int × Int)) (regs : Int) (order : List Nat) (at_ : List (Int × Int)) (n : Nat) : List (Int × Int) := take l regs order (mex (busy l at_ Prod.fst n order)) at_ n
def took (l : List (Int × Int)) (regs : Int) (order : List Nat) (k : Nat) : List (Int × Int) := (order.take k).foldl (takeStep l regs order) (List.replicate l.length (-1, -1))
def slotted (l : List (Int × Int)) (regs : Int) (order : List Nat) (k : Nat) : List (Int × Int) × Int := (order.take k).foldl (slotStep l order) (took l regs order order.length, 0)
theorem take_snoc {α β : Type} (f : β → α → β) (z : β) (l : List α) (k : Nat) (x : α) (h : l[k]? = some x) : (l.take (k + 1)).foldl f z = f ((l.take k).foldl f z) x := by
  rw [List.take_add_one, h, Option.toList_some, List.foldl_append]; rfl
theorem take_length (l : List (Int × Int)) (regs : Int) (order : List Nat) (r : Nat) (at_ : List (Int × Int)) (n : Nat) : (take l regs order r at_ n).length = at_.length := by
  unfold take
  split
  · rw [List.length_set]
  · split
    · rfl
    · rw [List.length_set, List.length_set]
theorem slotStep_length (l : List (Int × Int)) (order : List Nat) (s : List (Int × Int) × Int) (n : Nat) : (slotStep l order s n).1.length = s.1.length := by
  unfold slotStep
  split
  · rw [List.length_set]
  · rfl
theorem took_length (l : List (Int × Int)) (regs : Int) (order : List Nat) (k : Nat) : (took l regs order k).length = l.length := by
  have key : ∀ (r : List Nat) (a : List (Int × Int)), (r.foldl (takeStep l regs order) a).length = a.length := by
    intro r
    induction r with
    | nil => intro a; rfl
    | cons n r ih => intro a; rw [List.foldl_cons, ih]; exact take_length l regs order _ a n
  unfold took; rw [key, List.length_replicate]
theorem slotted_length (l : List (Int × Int)) (regs : Int) (order : List Nat) (k : Nat) : (slotted l regs order k).1.length = l.length := by
  have key : ∀ (r : List Nat) (a : List (Int × Int) × Int), (r.foldl (slotStep l order) a).1.length = a.1.length := by
    intro r
    induction r with
    | nil => intro a; rfl
    | cons n r ih => intro a; rw [List.foldl_cons, ih]; exact slotStep_length l order a n
  unfold slotted; rw [key]; exact took_length l regs order _
theorem took_succ (l : List (Int × Int)) (regs : Int) (order : List Nat) {k n : Nat} (h : order[k]? = some n) : took l regs order (k + 1) = takeStep l regs order (took l regs order k) n := by
  unfold took; exact take_snoc _ _ _ _ _ h
theorem slotted_succ (l : List (Int × Int)) (regs : Int) (order : List Nat) {k n : Nat} (h : order[k]? = some n) : slotted l regs order (k + 1) = slotStep l order (slotted l regs order k) n := by
  unfold slotted; exact take_snoc _ _ _ _ _ h
end Scn

end Go.Proofs.Ytljdnadejmkaeaa
