/- KM: TopM. -/
import Derived.Test.YtdlcooplllimeaaGreatDoorKT10
import Derived.Test.YtdlcooplllimeaaGreatDoorKT3
/- A state's cells in words: what a collection of them tells is what is reached. No walk. -/
namespace Go.Proofs.YtdlcooplllimeaaGreatDoor
open Go.RowKit

namespace Top
open Hau Sto
/-- a value's word, a reference's by the place of its cell -/
def wordOf (pl : List Nat) (v : Int × Int) : U64 := if v.1 = 5 then refW (pl.getD v.2.toNat 0) else ⟨(boxL v.1 v.2).1⟩
def objOf (pl : List Nat) (c : Ce) : List U64 := ⟨((cHas c).length : Int)⟩ :: (cHas c).map (wordOf pl)
/-- where cells lie -/
def plcFrom : Nat → List Ce → List Nat
  | _, [] => []
  | a, c :: l => a :: plcFrom (a + (1 + (cHas c).length)) l
def plcs (s : Stt) : List Nat := plcFrom 0 s.cells
def obsT (s : Stt) : List (List U64) := s.cells.map (objOf (plcs s))
def rootsT (s : Stt) : List U64 := (roots s).map fun k => refW ((plcs s).getD k.toNat 0)
theorem objOf_length (pl : List Nat) (c : Ce) : (objOf pl c).length = 1 + (cHas c).length := by unfold objOf; rw [List.length_cons, List.length_map]; omega
theorem plcFrom_starts (pl : List Nat) : ∀ (l : List Ce) (a : Nat), plcFrom a l = starts a (l.map (objOf pl))
  | [], a => rfl
  | c :: l, a => by rw [plcFrom, List.map_cons, starts, objOf_length, plcFrom_starts pl l]
theorem plcs_starts (s : Stt) : plcs s = starts 0 (obsT s) := plcFrom_starts _ _ _
theorem plcs_get {s : Stt} {n : Nat} (h : n < s.cells.length) : (plcs s)[n]? = some (st (obsT s) n) := by
  rw [plcs_starts]
  have := starts_get 0 (obsT s) n (by unfold obsT; rw [List.length_map]; exact h)
  rw [Nat.zero_add] at this; exact this
/-- all that a state's cells have may be boxed, and they are not too many -/
structure Fitw (s : Stt) : Prop where
  ok : Okr s
  plain : ∀ c ∈ s.cells, c.kind ≠ 7
  box : ∀ c ∈ s.cells, ∀ v ∈ cHas c, v.1 ≠ 5 → (boxL v.1 v.2).2 = 0
  small : (obsT s).flatten.length ≤ 2000
  rootsLe : (roots s).length ≤ 100
theorem lg_small {n : Nat} (h : n ≤ 2000) : lg ⟨(n : Int)⟩ = n := by unfold lg; simp only; omega
theorem Fitw.has_le {s : Stt} (h : Fitw s) {c : Ce} (hc : c ∈ s.cells) : (cHas c).length ≤ 2000 := by
  obtain ⟨n, hn⟩ := List.mem_iff_getElem?.1 hc
  have h1 : (obsT s)[n]? = some (objOf (plcs s) c) := by unfold obsT; rw [List.getElem?_map, hn]; rfl
  have h2 := st_succ h1
  have h3 := st_le (l := obsT s) (n + 1)
  have h4 := h.small
  rw [objOf_length] at h2
  omega
theorem Fitw.good {s : Stt} (h : Fitw s) : ∀ o ∈ obsT s, Sto.Good o := by
  intro o ho
  unfold obsT at ho
  obtain ⟨c, hc, rfl⟩ := List.mem_map.1 ho
  exact ⟨_, _, rfl, by rw [lg_small (h.has_le hc), List.length_map]⟩
theorem Fitw.st_lt {s : Stt} (h : Fitw s) (n : Nat) : st (obsT s) n < 4294967296 := by
  have := st_le (l := obsT s) n
  have := h.small
  omega
/-- what a word tells -/
theorem Fitw.word {s : Stt} (h : Fitw s) {c : Ce} (hc : c ∈ s.cells) {v : Int × Int} (hv : v ∈ cHas c) :
    (v.1 = 5 ∧ ∃ k : Nat, v.2 = (k : Int) ∧ k < s.cells.length ∧ wordOf (plcs s) v = refW (st (obsT s) k)) ∨ (v.1 ≠ 5 ∧ (∃ m, unbL (wordOf (plcs s) v).val = some (v.1, m)) ∧ refOf (wordOf (plcs s) v) = none) := by
  by_cases h5 : v.1 = 5
  · left
    have hm : v.2 ∈ rfs (cHas c) := mem_rfs.2 (by rw [← h5]; exact hv)
    obtain ⟨k, h1, h2⟩ := h.ok.ref hc hm
    refine ⟨h5, k, h1, h2, ?_⟩
    unfold wordOf
    rw [if_pos h5, h1, Int.toNat_natCast, List.getD_eq_getElem?_getD, plcs_get h2]
    rfl
  · right
    have hw : wordOf (plcs s) v = ⟨(boxL v.1 v.2).1⟩ := by unfold wordOf; rw [if_neg h5]
    obtain ⟨m, h1, -⟩ := unbL_box (k := v.1) (n := v.2) (x := (boxL v.1 v.2).1) (Prod.ext rfl (h.box c hc v hv h5))
    rw [hw]
    exact ⟨h5, ⟨m, h1⟩, by rw [refOf_of h1, if_neg h5]⟩
theorem Fitw.heapOk {s : Stt} (h : Fitw s) : okW (obsT s).flatten = true ∧ wordsOk (obsT s).flatten = true ∧ rootsOk (obsT s).flatten (rootsT s) = true ∧ heapErr ⟨(obsT s).flatten, rootsT s⟩ = 0 := by
  obtain ⟨h1, h2⟩ := places_st h.good
  have fit : ∀ k : Nat, k < s.cells.length → fits (starts 0 (obsT s)) (refW (st (obsT s) k)) = true := fun k hk => by
    unfold fits
    rw [unb_refW (h.st_lt k)]
    simp only [ne_eq, not_true_eq_false, decide_false, Bool.false_or, Int.toNat_natCast]
    exact List.contains_iff_mem.2 (mem_starts.2 ⟨k, by unfold obsT; rw [List.length_map]; exact hk, rfl⟩)
  have h3 := wordsOk_st h.good (fun o ho x hx => by
    unfold obsT at ho
    obtain ⟨c, hc, rfl⟩ := List.mem_map.1 ho
    unfold objOf at hx
    rw [List.tail_cons] at hx
    obtain ⟨v, hv, rfl⟩ := List.mem_map.1 hx
    rcases h.word hc hv with ⟨-, k, -, hk, e⟩ | ⟨h5, ⟨m, hu⟩, -⟩
    · rw [e]; exact fit k hk
    · unfold fits
      have : decide (v.1 ≠ 5) = true := by simpa using h5
      obtain ⟨a, b⟩ := v
      simp only [hu] at this ⊢
      rw [Bool.or_eq_true]
      exact .inl this)
  have h4 : rootsOk (obsT s).flatten (rootsT s) = true := by
    unfold rootsOk
    rw [h1, List.all_eq_true]
    intro y hy
    unfold rootsT at hy
    obtain ⟨k, hk, rfl⟩ := List.mem_map.1 hy
    obtain ⟨n, rfl, hn⟩ := h.ok.roots k hk
    rw [Int.toNat_natCast, List.getD_eq_getElem?_getD, plcs_get hn]
    exact fit n hn
  refine ⟨h2, h3, h4, ?_⟩
  unfold heapErr
  have hs := h.small
  have hr : (rootsT s).length ≤ 100 := by unfold rootsT; rw [List.length_map]; exact h.rootsLe
  rw [if_neg (by simp only; omega), if_neg (by simp [h2]), if_neg (by simp [h3]), if_neg (by simp [h4])]
theorem Fitw.inj {s : Stt} (h : Fitw s) {n m : Nat} (hn : n < s.cells.length) (hm : m < s.cells.length) (e : st (obsT s) n = st (obsT s) m) : n = m :=
  st_inj h.good (by unfold obsT; rw [List.length_map]; exact hn) (by unfold obsT; rw [List.length_map]; exact hm) e
/-- WHAT MOVES IS WHAT IS REACHED -/
theorem Fitw.told_iff {s : Stt} (h : Fitw s) (p : Nat) : p ∈ told (obsT s).flatten (rootsT s) ↔ ∃ n, Rc s n ∧ p = st (obsT s) n := by
  obtain ⟨k1, k2, k3, -⟩ := h.heapOk
  constructor
  · refine told_in (S := fun p => ∃ n, Rc s n ∧ p = st (obsT s) n) ?_ ?_ p
    · rintro g ⟨n, hn, rfl⟩ x hx r hr
      have hlt := hn.lt h.ok
      obtain ⟨c, hc⟩ : ∃ c, s.cells[n]? = some c := ⟨_, List.getElem?_eq_getElem hlt⟩
      have ho : (obsT s)[n]? = some (objOf (plcs s) c) := by unfold obsT; rw [List.getElem?_map, hc]; rfl
      unfold objOf at ho
      rw [tail_st h.good ho] at hx
      obtain ⟨v, hv, rfl⟩ := List.mem_map.1 hx
      rcases h.word (List.mem_of_getElem? hc) hv with ⟨h5, k, hk, hkl, e⟩ | ⟨-, -, e⟩
      · rw [e, refOf_refW (h.st_lt k)] at hr
        injection hr with hr
        refine ⟨k, Rc.has hn hc (mem_rfs.2 ?_), hr.symm⟩
        rw [← hk, ← h5]; exact hv
      · rw [e] at hr; cases hr
    · intro y hy r hr
      unfold rootsT at hy
      obtain ⟨k, hk, rfl⟩ := List.mem_map.1 hy
      obtain ⟨n, rfl, hn⟩ := h.ok.roots k hk
      rw [Int.toNat_natCast, List.getD_eq_getElem?_getD, plcs_get hn, Option.getD_some, refOf_refW (h.st_lt n)] at hr
      injection hr with hr
      exact ⟨n, Rc.root hk, hr.symm⟩
  · rintro ⟨n, hn, rfl⟩
    obtain ⟨t1, t2, t3, t4⟩ := told_closed k1 k2 k3
    induction hn with
    | @root n hm =>
      obtain ⟨m, e, hml⟩ := h.ok.roots _ hm
      have : n = m := Int.ofNat.inj e
      subst this
      refine t4 (refW (st (obsT s) n)) ?_ _ (refOf_refW (h.st_lt n))
      unfold rootsT
      exact List.mem_map.2 ⟨(n : Int), hm, by rw [Int.toNat_natCast, List.getD_eq_getElem?_getD, plcs_get hml]; rfl⟩
    | @has n k c hrn hc hk ih =>
      have hv := mem_rfs.1 hk
      have ho : (obsT s)[n]? = some (objOf (plcs s) c) := by unfold obsT; rw [List.getElem?_map, hc]; rfl
      have ho2 := ho
      unfold objOf at ho2
      refine t3 _ ih (wordOf (plcs s) (5, (k : Int))) (by rw [tail_st h.good ho2]; exact List.mem_map.2 ⟨_, hv, rfl⟩) _ ?_
      rcases h.word (List.mem_of_getElem? hc) hv with ⟨-, k', hk', -, e⟩ | ⟨h5, -, -⟩
      · have : k = k' := Int.ofNat.inj hk'
        subst this
        rw [e, refOf_refW (h.st_lt k)]
      · exact absurd rfl h5
    | pair _ hc hk _ _ _ _ _ => exact absurd hk (h.plain _ (List.mem_of_getElem? hc))
theorem mem_range_rising {l : List Bool} : (rising l).length = ((List.range l.length).filter fun n => l.getD n false).length := by
  have key : ∀ (l : List Bool) (i : Nat), (risingFrom i l).length = (l.filter fun b => b).length := by
    intro l
    induction l with
    | nil => intro i; rfl
    | cons b l ih =>
      intro i
      rw [risingFrom]
      cases b <;> simp [ih]
  have h2 : ∀ l : List Bool, ((List.range l.length).filter fun n => l.getD n false).length = (l.filter fun b => b).length := by
    intro l
    induction l with
    | nil => rfl
    | cons b l ih =>
      rw [List.length_cons, List.range_succ_eq_map, List.filter_cons, List.filter_map]
      have e : ((fun n => (b :: l).getD n false) ∘ Nat.succ) = fun n => l.getD n false := by funext n; simp
      rw [e]
      have ih' := ih
      simp only [List.getD_eq_getElem?_getD] at ih' ⊢
      cases b <;> simp [ih']
  unfold rising
  rw [key, h2]
theorem Fitw.told_len {s : Stt} (h : Fitw s) : (told (obsT s).flatten (rootsT s)).length = (rising (rcB s)).length := by
  obtain ⟨k1, k2, k3, -⟩ := h.heapOk
  obtain ⟨t1, -, -, -⟩ := told_closed k1 k2 k3
  have hb : ∀ n, (rcB s).getD n false = true ↔ Rc s n := fun n => by
    rw [List.getD_eq_getElem?_getD, ← rcB_get h.ok]
    cases (rcB s)[n]? with
    | none => simp
    | some b => simp
  have hperm : (told (obsT s).flatten (rootsT s)).Perm (((List.range (rcB s).length).filter fun n => (rcB s).getD n false).map (st (obsT s))) := by
    refine (List.perm_ext_iff_of_nodup t1 ?_).2 (fun p => ?_)
    · refine List.pairwise_map.2 ((List.nodup_range.filter _).imp_of_mem (fun {a b} ha hb' hne he => hne ?_))
      exact h.inj (((hb a).1 (List.mem_filter.1 ha).2).lt h.ok) (((hb b).1 (List.mem_filter.1 hb').2).lt h.ok) he
    · rw [h.told_iff, List.mem_map]
      constructor
      · rintro ⟨n, hn, rfl⟩
        exact ⟨n, List.mem_filter.2 ⟨List.mem_range.2 (by rw [rcB_length]; exact hn.lt h.ok), (hb n).2 hn⟩, rfl⟩
      · rintro ⟨n, hn, rfl⟩
        exact ⟨n, (hb n).1 (List.mem_filter.1 hn).2, rfl⟩
  rw [hperm.length_eq, List.length_map, mem_range_rising]
end Top
end Go.Proofs.YtdlcooplllimeaaGreatDoor
