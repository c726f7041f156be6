/- RF: MovesL. -/
import Derived.Lib.Hide
/- Moves side by side, the plain law: what is wrong with a list of moves; the row of moves, step by step. No program is named here. -/
namespace Go.Proofs.Ytljdnadejmkaeaa

/-- a move is (To, From) -/
def noTwice (l : List (Int × Int)) : Bool := decide ((l.map (·.1)).Nodup)
def mvErr (l : List (Int × Int)) (spare : Int) : Int :=
  if 60 < l.length then 2 else if noTwice l = false then 6 else if l.any (fun m => decide (m.1 = spare) || decide (m.2 = spare)) = true then 1 else 0

theorem noTwice_snoc (l : List (Int × Int)) (k : Nat) (x : Int × Int) (h : l[k]? = some x) (h1 : noTwice (l.take k) = true) (h2 : (l.take k).any (fun y => decide (y.1 = x.1)) = false) : noTwice (l.take (k + 1)) = true := by
  unfold noTwice at *
  rw [List.take_add_one, h]
  simp only [Option.toList_some, List.map_append, List.map_cons, List.map_nil, decide_eq_true_eq] at *
  rw [List.nodup_append]
  refine ⟨h1, by simp, ?_⟩
  intro a ha b hb hab
  simp only [List.mem_singleton] at hb
  subst hb
  obtain ⟨y, hy, rfl⟩ := List.mem_map.1 ha
  have := List.any_eq_false.1 h2 y hy
  simp at this
  exact this hab
theorem noTwice_stop (l : List (Int × Int)) (k : Nat) (x : Int × Int) (h : l[k]? = some x) (h2 : (l.take k).any (fun y => decide (y.1 = x.1)) = true) : noTwice l = false := by
  unfold noTwice
  rw [decide_eq_false_iff_not]
  intro hn
  obtain ⟨y, hy, he⟩ := List.any_eq_true.1 h2
  simp only [decide_eq_true_eq] at he
  have hs : l = l.take k ++ l.drop k := (List.take_append_drop k l).symm
  rw [hs, List.map_append, List.nodup_append] at hn
  obtain ⟨-, -, hd⟩ := hn
  have hxm : x ∈ l.drop k := by
    rw [List.mem_iff_getElem?]; exact ⟨0, by rw [List.getElem?_drop]; simpa using h⟩
  exact hd y.1 (List.mem_map.2 ⟨y, hy, rfl⟩) x.1 (List.mem_map.2 ⟨x, hxm, rfl⟩) he

/-- does nobody else want what a move writes? -/
def fre (left : List (Int × Int)) (m : Int × Int) : Bool := !(left.any fun x => decide (x.2 = m.1))
def cyc (spare to_ : Int) (m : Int × Int) : Int × Int := if m.2 = to_ then (m.1, spare) else m
/-- the row of moves, after so many steps at most -/
def mvs (spare : Int) : Nat → List (Int × Int) → List (Int × Int) → List (Int × Int)
  | 0, _, out => out
  | n + 1, left, out =>
    if left = [] then out
    else if left.any (fre left) = true then mvs spare n (left.eraseIdx (left.findIdx (fre left))) (out ++ [left.getD (left.findIdx (fre left)) (0, 0)])
    else mvs spare n (left.map (cyc spare (left.headD (0, 0)).1)) (out ++ [(spare, (left.headD (0, 0)).1)])
def mvMeas (left : List (Int × Int)) : Nat := 2 * left.length + if left.any (fre left) = true then 0 else 1
/-- moves that are to be done: none of them to where it is from, none of them to the spare one -/
def mvOk (spare : Int) (left : List (Int × Int)) : Prop := ∀ m ∈ left, m.1 ≠ m.2 ∧ m.1 ≠ spare
def proper (l : List (Int × Int)) : List (Int × Int) := l.filter fun m => decide (m.1 ≠ m.2)
/-- the answer -/
def mvAll (l : List (Int × Int)) (spare : Int) : List (Int × Int) := mvs spare (2 * (proper l).length + 2) (proper l) []

theorem mvMeas_le (left : List (Int × Int)) : mvMeas left ≤ 2 * left.length + 1 := by unfold mvMeas; split <;> omega
theorem proper_ok (l : List (Int × Int)) (spare : Int) (h : mvErr l spare = 0) : mvOk spare (proper l) := by
  intro m hm
  simp only [proper, List.mem_filter, decide_eq_true_eq] at hm
  refine ⟨hm.2, fun hs => ?_⟩
  unfold mvErr at h
  split at h
  · cases h
  · split at h
    · cases h
    · split at h
      · cases h
      · rename_i h3
        rw [Bool.not_eq_true, List.any_eq_false] at h3
        have := h3 m hm.1
        simp [hs] at this
theorem mvOk.erase {spare : Int} {left : List (Int × Int)} (h : mvOk spare left) (i : Nat) : mvOk spare (left.eraseIdx i) := fun m hm => h m (List.mem_of_mem_eraseIdx hm)
theorem mvOk.cyc {spare to_ : Int} {left : List (Int × Int)} (h : mvOk spare left) : mvOk spare (left.map (cyc spare to_)) := by
  intro m hm
  obtain ⟨x, hx, rfl⟩ := List.mem_map.1 hm
  have := h x hx
  unfold Proofs.Ytljdnadejmkaeaa.cyc
  split
  · exact ⟨this.2, this.2⟩
  · exact this
/-- a step that does a move -/
theorem mvs_do {spare : Int} {n : Nat} {left out : List (Int × Int)} (hl : left ≠ []) (hf : left.any (fre left) = true) :
    mvs spare (n + 1) left out = mvs spare n (left.eraseIdx (left.findIdx (fre left))) (out ++ [left.getD (left.findIdx (fre left)) (0, 0)]) := by
  rw [mvs, if_neg hl, if_pos hf]
theorem mvs_cyc {spare : Int} {n : Nat} {left out : List (Int × Int)} (hl : left ≠ []) (hf : left.any (fre left) = false) :
    mvs spare (n + 1) left out = mvs spare n (left.map (cyc spare (left.headD (0, 0)).1)) (out ++ [(spare, (left.headD (0, 0)).1)]) := by
  rw [mvs, if_neg hl, if_neg (by simp [hf])]
theorem mvs_end {spare : Int} {n : Nat} {out : List (Int × Int)} : mvs spare n [] out = out := by
  cases n <;> simp [mvs]
theorem mvMeas_do {left : List (Int × Int)} (hf : left.any (fre left) = true) : mvMeas (left.eraseIdx (left.findIdx (fre left))) < mvMeas left := by
  have hi : left.findIdx (fre left) < left.length := by
    rw [List.findIdx_lt_length]; exact List.any_eq_true.1 hf
  have h1 := mvMeas_le (left.eraseIdx (left.findIdx (fre left)))
  rw [List.length_eraseIdx_of_lt hi] at h1
  have h2 : 2 * left.length ≤ mvMeas left := by unfold mvMeas; omega
  omega
theorem mvMeas_cyc {spare : Int} {left : List (Int × Int)} (hl : left ≠ []) (hf : left.any (fre left) = false) (hok : mvOk spare left) : mvMeas (left.map (cyc spare (left.headD (0, 0)).1)) < mvMeas left := by
  have h1 : mvMeas left = 2 * left.length + 1 := by unfold mvMeas; rw [if_neg (by simp [hf])]
  have h2 : (left.map (cyc spare (left.headD (0, 0)).1)).any (fre (left.map (cyc spare (left.headD (0, 0)).1))) = true := by
    obtain ⟨m, r, rfl⟩ : ∃ m r, left = m :: r := by cases left with | nil => exact absurd rfl hl | cons m r => exact ⟨m, r, rfl⟩
    rw [List.any_eq_true]
    refine ⟨cyc spare m.1 m, by simp, ?_⟩
    have hm1 : (cyc spare m.1 m).1 = m.1 := by unfold cyc; split <;> rfl
    unfold fre
    rw [Bool.not_eq_true', List.any_eq_false, hm1]
    intro x hx
    obtain ⟨y, hy, rfl⟩ := List.mem_map.1 hx
    have hsp := (hok m (by simp)).2
    rw [List.headD_cons, decide_eq_true_eq]
    unfold cyc
    split
    · exact fun h => hsp h.symm
    · assumption
  have h3 : mvMeas (left.map (cyc spare (left.headD (0, 0)).1)) = 2 * left.length := by unfold mvMeas; rw [if_pos h2, List.length_map]; omega
  omega
/-- the program's test of a move is the reference's, where no move is to where it is from -/
theorem fre_own {spare : Int} {left : List (Int × Int)} (hok : mvOk spare left) (m : Int × Int) (hm : m ∈ left) : (!(left.any fun x => !decide (x = m) && decide (x.2 = m.1))) = fre left m := by
  unfold fre
  congr 1
  rw [Bool.eq_iff_iff, List.any_eq_true, List.any_eq_true]
  constructor
  · rintro ⟨x, hx, h⟩
    simp only [Bool.and_eq_true] at h
    exact ⟨x, hx, h.2⟩
  · rintro ⟨x, hx, h⟩
    refine ⟨x, hx, ?_⟩
    simp only [Bool.and_eq_true]
    refine ⟨?_, h⟩
    simp only [decide_eq_true_eq] at h
    simp only [Bool.not_eq_true', decide_eq_false_iff_not]
    rintro rfl
    exact (hok x hx).1 h.symm
theorem mvs_length (spare : Int) : ∀ (n : Nat) (left out : List (Int × Int)), (mvs spare n left out).length ≤ out.length + n := by
  intro n
  induction n with
  | zero => intro left out; simp [mvs]
  | succ n ih =>
    intro left out
    rw [mvs]
    split
    · omega
    · split
      · have := ih (left.eraseIdx (left.findIdx (fre left))) (out ++ [left.getD (left.findIdx (fre left)) (0, 0)]); rw [List.length_append, List.length_singleton] at this; omega
      · have := ih (left.map (cyc spare (left.headD (0, 0)).1)) (out ++ [(spare, (left.headD (0, 0)).1)]); rw [List.length_append, List.length_singleton] at this; omega

end Go.Proofs.Ytljdnadejmkaeaa
