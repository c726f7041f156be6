/- SM: StoL, HaulN, StoM, StoN, ShA, Weak1, Weak2, Weak3, Weak4, StoF, ShG, SetI, Held, Held2, Haul1, Haul2, Haul3, Haul4, Haul5, Haul6, Haul7. -/
import Derived.Test.YtpkccpegdpodoaaSM1
import Derived.Test.YtpkccpegdpodoaaRows
import Derived.BigQuiet
import Derived.Deep.QuietTactic
import Derived.Deep.DeepMust
import Derived.Deep.LoopGhost
import Derived.Deep.DrawnRows
import Derived.StillTailTactics
import Derived.IntWalk
import Derived.Deep.OwnRows
import Derived.Deep.RegionHeld3
import Derived.Shelf.GgClosure.Gives
import Derived.Maps.OwnSet
import Derived.Maps.OwnOps
import Derived.Handy
import Derived.Deep.CutRange
import Derived.BigRegion
/- A store's words as objects one behind another: where each begins, what is read there. -/
namespace Go.Proofs.Ytpkccpegdpodoaa
open Go.RowKit

namespace Sto
open Hau
/-- an object: a first word that tells how many follow -/
def Good (o : List U64) : Prop := ∃ h b, o = h :: b ∧ lg h = b.length
/-- where objects begin -/
def starts : Nat → List (List U64) → List Nat
  | _, [] => []
  | a, o :: l => a :: starts (a + o.length) l
theorem starts_length (a : Nat) (l : List (List U64)) : (starts a l).length = l.length := by
  induction l generalizing a with
  | nil => rfl
  | cons o l ih => rw [starts, List.length_cons, ih, List.length_cons]
theorem starts_append (a : Nat) (l r : List (List U64)) : starts a (l ++ r) = starts a l ++ starts (a + l.flatten.length) r := by
  induction l generalizing a with
  | nil => simp [starts]
  | cons o l ih => rw [List.cons_append, starts, starts, ih, List.flatten_cons, List.length_append, List.cons_append, Nat.add_assoc]
/-- where the j-th begins -/
def st (l : List (List U64)) (j : Nat) : Nat := (l.take j).flatten.length
theorem starts_get (a : Nat) (l : List (List U64)) (j : Nat) (hj : j < l.length) : (starts a l)[j]? = some (a + st l j) := by
  induction l generalizing a j with
  | nil => simp at hj
  | cons o l ih =>
    cases j with
    | zero => simp [starts, st]
    | succ j =>
      rw [starts, List.getElem?_cons_succ, ih _ j (by simpa using hj)]
      simp [st, Nat.add_assoc]
theorem mem_starts {l : List (List U64)} {p : Nat} : p ∈ starts 0 l ↔ ∃ j, j < l.length ∧ p = st l j := by
  constructor
  · intro h
    obtain ⟨j, hj⟩ := List.mem_iff_getElem?.1 h
    have hl : j < l.length := by have := (List.getElem?_eq_some_iff.1 hj).1; rwa [starts_length] at this
    rw [starts_get 0 l j hl, Nat.zero_add] at hj
    exact ⟨j, hl, (Option.some.inj hj).symm⟩
  · rintro ⟨j, hj, rfl⟩
    exact List.mem_iff_getElem?.2 ⟨j, by rw [starts_get 0 l j hj, Nat.zero_add]⟩
theorem st_succ {l : List (List U64)} {j : Nat} {o : List U64} (h : l[j]? = some o) : st l (j + 1) = st l j + o.length := by
  unfold st; rw [List.take_add_one, h]; simp
theorem st_mono {l : List (List U64)} {i j : Nat} (h : i ≤ j) : st l i ≤ st l j := by
  unfold st
  obtain ⟨d, rfl⟩ : ∃ d, j = i + d := ⟨j - i, by omega⟩
  rw [List.take_add, List.flatten_append, List.length_append]; omega
theorem st_lt {l : List (List U64)} (hg : ∀ o ∈ l, Good o) {i j : Nat} (h : i < j) (hi : i < l.length) : st l i < st l j := by
  have h1 := st_mono (l := l) (show i + 1 ≤ j from h)
  have h2 := st_succ (List.getElem?_eq_getElem hi)
  obtain ⟨a, b, e, -⟩ := hg _ (List.getElem_mem hi)
  have : (l[i]).length = b.length + 1 := by rw [e]; rfl
  omega
theorem st_inj {l : List (List U64)} (hg : ∀ o ∈ l, Good o) {i j : Nat} (hi : i < l.length) (hj : j < l.length) (h : st l i = st l j) : i = j := by
  rcases Nat.lt_trichotomy i j with h1 | h1 | h1
  · have := st_lt hg h1 hi; omega
  · exact h1
  · have := st_lt hg h1 hj; omega
theorem st_all (l : List (List U64)) : st l l.length = l.flatten.length := by unfold st; rw [List.take_length]
theorem st_app {l r : List (List U64)} {j : Nat} (h : j ≤ l.length) : st (l ++ r) j = st l j := by
  unfold st; rw [List.take_append_of_le_length h]
/-- what is read at a beginning -/
theorem drop_st {l : List (List U64)} {j : Nat} {o : List U64} (h : l[j]? = some o) : l.flatten.drop (st l j) = o ++ (l.drop (j + 1)).flatten := by
  have hj := (List.getElem?_eq_some_iff.1 h).1
  have ho := (List.getElem?_eq_some_iff.1 h).2
  have e : l = l.take j ++ o :: l.drop (j + 1) := by rw [← ho, ← List.drop_eq_getElem_cons hj, List.take_append_drop]
  unfold st
  conv => lhs; rw [show l.flatten = (l.take j).flatten ++ (o ++ (l.drop (j + 1)).flatten) by conv => lhs; rw [e]; simp]
  rw [List.drop_left]
theorem wat_st {l : List (List U64)} {j : Nat} {h : U64} {b : List U64} (hj : l[j]? = some (h :: b)) : wat l.flatten (st l j) = h := by
  have := drop_st hj
  unfold wat
  rw [List.getD_eq_getElem?_getD]
  have h0 : (l.flatten.drop (st l j))[0]? = some h := by rw [this]; rfl
  rw [List.getElem?_drop, Nat.add_zero] at h0
  rw [h0]; rfl
theorem sz_st {l : List (List U64)} (hg : ∀ o ∈ l, Good o) {j : Nat} {o : List U64} (hj : l[j]? = some o) : sz l.flatten (st l j) = o.length := by
  obtain ⟨h, b, rfl, hl⟩ := hg o (List.mem_of_getElem? hj)
  unfold sz
  rw [wat_st hj, hl, List.length_cons]; omega
theorem obj_st {l : List (List U64)} (hg : ∀ o ∈ l, Good o) {j : Nat} {o : List U64} (hj : l[j]? = some o) : obj l.flatten (st l j) = o := by
  unfold obj
  rw [sz_st hg hj, drop_st hj, List.take_left]
theorem tail_st {l : List (List U64)} (hg : ∀ o ∈ l, Good o) {j : Nat} {h : U64} {b : List U64} (hj : l[j]? = some (h :: b)) : Hau.tail l.flatten (st l j) = b := by
  unfold Hau.tail; rw [obj_st hg hj]; rfl
theorem st_le {l : List (List U64)} (j : Nat) : st l j ≤ l.flatten.length := by
  rw [← st_all]
  by_cases h : j ≤ l.length
  · exact st_mono h
  · unfold st; rw [List.take_of_length_le (by omega), List.take_length]; exact Nat.le_refl _
/-- the objects that haul finds are these -/
theorem objs_st {l : List (List U64)} (hg : ∀ o ∈ l, Good o) : ∀ (f j : Nat), l.length ≤ f + j → j ≤ l.length → objs l.flatten (f + 1) (st l j) = (starts 0 l).drop j ∧ oend l.flatten (f + 1) (st l j) = l.flatten.length := by
  intro f
  induction f with
  | zero =>
    intro j hf hj
    have : j = l.length := by omega
    subst this
    rw [st_all, objs_done (Nat.le_refl _), oend_done (Nat.le_refl _), List.drop_eq_nil_of_le (by rw [starts_length]; exact Nat.le_refl _)]
    exact ⟨rfl, rfl⟩
  | succ f ih =>
    intro j hf hj
    by_cases hlt : j < l.length
    · obtain ⟨o, ho⟩ : ∃ o, l[j]? = some o := ⟨_, List.getElem?_eq_getElem hlt⟩
      have hs := sz_st hg ho
      have hst := st_succ ho
      have hlen : st l j < l.flatten.length := by
        have := st_le (l := l) (j + 1)
        obtain ⟨h, b, rfl, -⟩ := hg o (List.mem_of_getElem? ho)
        rw [List.length_cons] at hst; omega
      obtain ⟨i1, i2⟩ := ih (j + 1) (by omega) (by omega)
      rw [objs, if_pos hlen, oend, if_pos hlen, hs, ← hst, i1, i2]
      refine ⟨?_, rfl⟩
      have hd : (starts 0 l).drop j = (st l j) :: (starts 0 l).drop (j + 1) := by
        have hjl : j < (starts 0 l).length := by rw [starts_length]; exact hlt
        rw [List.drop_eq_getElem_cons hjl]
        congr 1
        have := starts_get 0 l j hlt
        rw [List.getElem?_eq_getElem hjl, Nat.zero_add] at this
        exact Option.some.inj this
      rw [hd]
    · have : j = l.length := by omega
      subst this
      rw [st_all, objs_done (Nat.le_refl _), oend_done (Nat.le_refl _), List.drop_eq_nil_of_le (by rw [starts_length]; exact Nat.le_refl _)]
      exact ⟨rfl, rfl⟩
theorem len_le_flat {l : List (List U64)} (hg : ∀ o ∈ l, Good o) : l.length ≤ l.flatten.length := by
  induction l with
  | nil => simp
  | cons o l ih =>
    obtain ⟨h, b, rfl, -⟩ := hg o (by simp)
    have := ih fun o ho => hg o (by simp [ho])
    rw [List.flatten_cons, List.length_append, List.length_cons, List.length_cons]; omega
theorem places_st {l : List (List U64)} (hg : ∀ o ∈ l, Good o) : places l.flatten = starts 0 l ∧ okW l.flatten = true := by
  have h0 := objs_st hg l.flatten.length 0 (by have := len_le_flat hg; omega) (Nat.zero_le _)
  rw [show st l 0 = 0 from rfl] at h0
  refine ⟨by unfold places; rw [h0.1]; rfl, by unfold okW; rw [h0.2]; simp⟩
/-- a word that lies in no first place is a follower -/
theorem body_word {l : List (List U64)} (hg : ∀ o ∈ l, Good o) {i : Nat} {x : U64} (hx : l.flatten[i]? = some x) (hp : i ∉ starts 0 l) : ∃ o ∈ l, x ∈ o.tail := by
  have key : ∀ (l : List (List U64)) (a i : Nat), (∀ o ∈ l, Good o) → l.flatten[i]? = some x → (a + i) ∉ starts a l → ∃ o ∈ l, x ∈ o.tail := by
    intro l
    induction l with
    | nil => intro a i _ h _; simp at h
    | cons o l ih =>
      intro a i hg hx hp
      obtain ⟨h, b, rfl, -⟩ := hg o (by simp)
      rw [List.flatten_cons] at hx
      by_cases hi : i < (h :: b).length
      · rw [List.getElem?_append_left hi] at hx
        cases i with
        | zero => exact absurd (by simp [starts]) hp
        | succ i => exact ⟨h :: b, by simp, by rw [List.getElem?_cons_succ] at hx; exact List.mem_of_getElem? hx⟩
      · rw [List.getElem?_append_right (by omega)] at hx
        obtain ⟨o2, h1, h2⟩ := ih (a + (h :: b).length) (i - (h :: b).length) (fun o ho => hg o (by simp [ho])) hx (fun hm => hp (by
          rw [starts]
          exact List.mem_cons_of_mem _ (by rw [show a + i = a + (h :: b).length + (i - (h :: b).length) by omega]; exact hm)))
        exact ⟨o2, by simp [h1], h2⟩
  exact key l 0 i hg hx (by rw [Nat.zero_add]; exact hp)
theorem wordsOk_st {l : List (List U64)} (hg : ∀ o ∈ l, Good o) (hf : ∀ o ∈ l, ∀ x ∈ o.tail, fits (starts 0 l) x = true) : wordsOk l.flatten = true := by
  unfold wordsOk
  rw [(places_st hg).1]
  rw [List.all_eq_true]
  intro i hi
  have hi := List.mem_range.1 hi
  cases hc : (starts 0 l).contains i with
  | true => rfl
  | false =>
    rw [Bool.false_or]
    have hn : i ∉ starts 0 l := fun h => by rw [List.contains_iff_mem.2 h] at hc; cases hc
    obtain ⟨o, h1, h2⟩ := body_word hg (List.getElem?_eq_getElem hi) hn
    unfold wat
    rw [List.getD_eq_getElem?_getD, List.getElem?_eq_getElem hi]
    exact hf o h1 _ h2
end Sto

end Go.Proofs.Ytpkccpegdpodoaa

/- A heap that moves: what a collection's rounds keep. -/
namespace Go.Proofs.Ytpkccpegdpodoaa
open Go.RowKit

namespace Hau
def Ou (ws roots : List U64) (F1 G R : List Nat) : Prop :=
  (G ++ R).Nodup ∧ (∀ r ∈ G ++ R, r ∈ places ws) ∧ (∀ g ∈ G, known (G ++ R) (tail ws g)) ∧ (∃ X, G ++ R = F1 ++ X) ∧ ∃ f, bfs ws f (G ++ R) G.length = told ws roots ∧ ws.length < f + G.length
def In (ws roots : List U64) (F1 F0 G : List Nat) (p : Nat) (R : List Nat) (q : Nat) : Prop :=
  (G ++ p :: R).Nodup ∧ (∀ r ∈ G ++ p :: R, r ∈ places ws) ∧ (∀ g ∈ G, known (G ++ p :: R) (tail ws g)) ∧ known (G ++ p :: R) ((tail ws p).take q) ∧ G ++ p :: R = addAll F0 ((tail ws p).take q) ∧ (∃ X, F0 = F1 ++ X) ∧ (∃ R0, F0 = G ++ p :: R0) ∧
    ∃ f, bfs ws f F0 G.length = told ws roots ∧ ws.length < f + G.length
theorem Ou.start {ws roots : List U64} (_hok : okW ws = true) (hr : rootsOk ws roots = true) : Ou ws roots (addAll [] roots) [] (addAll [] roots) :=
  ⟨addAll_nodup roots List.nodup_nil, addAll_sub roots (by simp) (fun x hx => List.all_eq_true.1 hr x hx), by simp, ⟨[], by simp⟩, ws.length + 1, rfl, by simp⟩
theorem Ou.into {ws roots : List U64} {F1 G R : List Nat} {p : Nat} (h : Ou ws roots F1 G (p :: R)) : In ws roots F1 (G ++ p :: R) G p R 0 := by
  obtain ⟨h1, h2, h3, h4, h5⟩ := h
  exact ⟨h1, h2, h3, by intro x hx; simp at hx, by simp [addAll], h4, ⟨R, rfl⟩, h5⟩
theorem addW_app {F : List Nat} {x : U64} {l : List U64} {k : Nat} {F0 : List Nat} (h : F = addAll F0 (l.take k)) (hx : l[k]? = some x) : addW F x = addAll F0 (l.take (k + 1)) := by
  rw [addAll_snoc hx, h]
theorem In.next {ws roots : List U64} {F1 F0 G R X : List Nat} {p q : Nat} {x : U64} (h : In ws roots F1 F0 G p R q) (hok : okW ws = true) (hw : wordsOk ws = true) (hx : (tail ws p)[q]? = some x) (hX : addW (G ++ p :: R) x = (G ++ p :: R) ++ X) : In ws roots F1 F0 G p (R ++ X) (q + 1) := by
  obtain ⟨h1, h2, h3, h4, h5, h6, h7, h8⟩ := h
  have e : G ++ p :: (R ++ X) = (G ++ p :: R) ++ X := by simp
  have hpp : p ∈ places ws := h2 p (by simp)
  have hfx : fits (places ws) x = true := wordsOk_tail hok hw hpp x (List.mem_of_getElem? hx)
  unfold In
  rw [e]
  refine ⟨by rw [← hX]; exact addW_nodup h1, by rw [← hX]; exact addW_sub h2 hfx, fun g hg => (h3 g hg).app, ?_, by rw [← hX]; exact addW_app h5 hx, h6, h7, h8⟩
  rw [List.take_add_one, hx, Option.toList_some]
  intro y hy r hr
  rcases List.mem_append.1 hy with hy | hy
  · exact List.mem_append.2 (.inl (h4 y hy r hr))
  · simp at hy; subst hy; rw [← hX]; exact addW_known r hr
theorem len_le {ws : List U64} (hok : okW ws = true) {F : List Nat} (h1 : F.Nodup) (h2 : ∀ r ∈ F, r ∈ places ws) : (F.map (sz ws)).sum ≤ ws.length ∧ F.length ≤ (F.map (sz ws)).sum := by
  refine ⟨?_, ?_⟩
  · have := sum_sub (sz ws) F (places ws) h1 h2
    rw [(places_spec hok).2.2] at this; exact this
  · clear h1 h2
    induction F with
    | nil => simp
    | cons g G ih => have := sz_pos ws g; simp only [List.length_cons, List.map_cons, List.sum_cons]; omega
theorem In.out {ws roots : List U64} {F1 F0 G R : List Nat} {p q : Nat} (h : In ws roots F1 F0 G p R q) (hok : okW ws = true) (hq : (tail ws p).length ≤ q) : Ou ws roots F1 (G ++ [p]) R := by
  obtain ⟨h1, h2, h3, h4, h5, ⟨X, h6⟩, ⟨R0, h7⟩, f, h8, h9⟩ := h
  have e : (G ++ [p]) ++ R = G ++ p :: R := by simp
  rw [List.take_of_length_le hq] at h4 h5
  have hl := len_le hok h1 h2
  obtain ⟨Y, hY⟩ := addAll_pre (tail ws p) F0
  unfold Ou
  rw [e]
  refine ⟨h1, h2, fun g hg => ?_, ⟨X ++ Y, by rw [h5, hY, h6, List.append_assoc]⟩, ?_⟩
  · rcases List.mem_append.1 hg with hg | hg
    · exact h3 g hg
    · simp at hg; subst hg; exact h4
  · cases f with
    | zero =>
      rw [List.length_append, List.length_cons] at hl
      omega
    | succ f =>
      refine ⟨f, ?_, by simp; omega⟩
      have hlt : G.length < F0.length := by rw [h7, List.length_append, List.length_cons]; omega
      have hgd : F0.getD G.length 0 = p := by rw [h7, List.getD_eq_getElem?_getD, List.getElem?_append_right (Nat.le_refl _), Nat.sub_self]; rfl
      unfold bfs at h8
      rw [if_pos hlt, hgd, ← h5] at h8
      rw [← h8]; simp
theorem Ou.done {ws roots : List U64} {F1 G : List Nat} (h : Ou ws roots F1 G []) : G = told ws roots := by
  obtain ⟨h1, h2, h3, h4, f, h5, h6⟩ := h
  rw [List.append_nil] at h5
  rw [← h5]
  cases f with
  | zero => rfl
  | succ f => unfold bfs; rw [if_neg (by omega)]
/-- the words between two objects -/
def mid (ws : List U64) (G R : List Nat) : List U64 := G.flatMap (tobj ws (G ++ R)) ++ raw ws R
theorem mid_nil (ws : List U64) (R : List Nat) : mid ws [] R = raw ws R := by simp [mid]
theorem mid_cont (ws : List U64) (G R : List Nat) (p : Nat) : mid ws G (p :: R) = cont ws G p R 0 := by
  unfold mid cont
  rw [pobj_zero, raw, List.flatMap_cons, List.append_assoc]; rfl
theorem cont_mid {ws : List U64} {G R : List Nat} {p q : Nat} (hq : (tail ws p).length ≤ q) : cont ws G p R q = mid ws (G ++ [p]) R := by
  unfold mid cont
  rw [pobj_full hq, show (G ++ [p]) ++ R = G ++ p :: R by simp, List.flatMap_append]
  simp
theorem mid_end (ws : List U64) (G : List Nat) : mid ws G [] = G.flatMap (tobj ws G) := by simp [mid, raw]
theorem mid_length {ws : List U64} {G R : List Nat} (h : ∀ p ∈ G ++ R, p + sz ws p ≤ ws.length) : (mid ws G R).length = ((G ++ R).map (sz ws)).sum := by
  unfold mid
  rw [List.length_append, tobjs_length (fun g hg => h g (by simp [hg])), raw_length (fun g hg => h g (by simp [hg])), List.map_append, List.sum_append]
/-- the roots, as far as they are moved -/
theorem roots_next {ws : List U64} {F X : List Nat} {roots : List U64} {k : Nat} {x : U64} (hF : F = addAll [] (roots.take k)) (hx : roots[k]? = some x) (_hX : addW F x = F ++ X) :
    (roots.take k).map (trn ws F) ++ [trn ws (F ++ X) x] = (roots.take (k + 1)).map (trn ws (F ++ X)) := by
  have hk : known F (roots.take k) := by rw [hF]; exact addAll_known _ _
  rw [List.take_add_one, hx, Option.toList_some, List.map_append, map_trn_app hk]; rfl
theorem roots_end {ws roots : List U64} {F1 X : List Nat} (h : F1 = addAll [] roots) : roots.map (trn ws F1) = roots.map (trn ws (F1 ++ X)) := by
  rw [map_trn_app]; rw [h]; exact addAll_known _ _
end Hau

end Go.Proofs.Ytpkccpegdpodoaa

/- What a box holds; what a collection tells: all that is reached, and no more. -/
namespace Go.Proofs.Ytpkccpegdpodoaa
open Go.RowKit

namespace Sto
open Hau
/-- what was boxed is read again: of its kind; just so, but for a float -/
theorem unbL_box {k n x : Int} (h : boxL k n = (x, 0)) : ∃ m, unbL x = some (k, m) ∧ (k ≠ 3 → m = n) := by
  unfold boxL at h
  split at h
  · injection h with _ h; cases h
  rename_i hk
  split at h
  · rename_i h3
    subst h3
    split at h
    · injection h with h _
      subst h
      exact ⟨_, rfl, fun h => absurd rfl h⟩
    · rename_i hs
      injection h with h _
      subst h
      have hs2 : spo (n % 18446744073709551616) = false := by simpa using hs
      have hlt : n % 18446744073709551616 / 281474976710656 < 65529 := by
        unfold spo at hs2
        simp only [decide_eq_false_iff_not] at hs2
        omega
      refine ⟨sgn64 (n % 18446744073709551616), ?_, fun h => absurd rfl h⟩
      unfold unbL
      rw [if_pos (.inl hlt), if_neg (by rw [hs2]; simp)]
  · rename_i h3
    split at h
    · injection h with _ h; cases h
    · rename_i hr
      have hb : boxL k n = (x, 0) := by unfold boxL; rw [if_neg hk, if_neg h3, if_neg hr]; exact h
      injection h with h _
      have htag : tagL k = 65529 + (if 3 < k then k - 1 else k) := rfl
      have hlh : lowk k ≤ n ∧ n ≤ highk k := by omega
      have hkk : kindL x = k := by
        unfold kindL
        subst h
        rw [htag]
        split <;> split <;> omega
      have hnn : numL x = n := by
        unfold numL
        rw [hkk]
        subst h
        unfold lowk highk at hlh
        rw [htag]
        split
        · rename_i h2; subst h2; simp at hlh; unfold sgn32; omega
        · rename_i h2
          rw [if_neg h2] at hlh
          have : 0 ≤ n ∧ n ≤ 4294967295 := by
            refine ⟨hlh.1, ?_⟩
            have := hlh.2
            split at this
            · omega
            · split at this <;> omega
          omega
      refine ⟨n, ?_, fun _ => rfl⟩
      unfold unbL
      rw [if_neg (by subst h; rw [htag]; split <;> omega), hkk, hnn, hb, if_pos rfl]
theorem box_ref {p : Nat} (h : p < 4294967296) : boxL 5 p = ((refW p).val, 0) := by
  unfold refW
  have hlow : lowk 5 = 0 := by unfold lowk; decide
  have hhigh : highk 5 = 4294967295 := by unfold highk; decide
  have : (boxL 5 (p : Int)).2 = 0 := by
    unfold boxL
    rw [hlow, hhigh, if_neg (by omega), if_neg (by omega), if_neg (by omega)]
  rw [← this]
theorem unb_refW {p : Nat} (h : p < 4294967296) : unbL (refW p).val = some (5, (p : Int)) := by
  obtain ⟨m, h1, h2⟩ := unbL_box (box_ref h)
  rw [h1, h2 (by decide)]
theorem refOf_refW {p : Nat} (h : p < 4294967296) : refOf (refW p) = some p := by
  unfold refOf; rw [unb_refW h]; simp
theorem refOf_of {x : U64} {k n : Int} (h : unbL x.val = some (k, n)) : refOf x = if k = 5 then some n.toNat else none := by
  unfold refOf; rw [h]
/-- a reference is just the box of its place -/
theorem unb_range {x k n : Int} (_hx : 0 ≤ x ∧ x ≤ 18446744073709551615) (h : unbL x = some (k, n)) : k = 5 → boxL 5 n = (x, 0) ∧ 0 ≤ n ∧ n < 4294967296 := by
  intro hk
  subst hk
  unfold unbL at h
  split at h
  · split at h
    · cases h
    · injection h with h; injection h with h _; cases h
  · split at h
    · rename_i hb
      injection h with h; injection h with h1 h2
      rw [h1, h2] at hb
      refine ⟨hb, ?_⟩
      unfold boxL lowk highk at hb
      simp at hb
      split at hb
      · injection hb with _ hb; cases hb
      · omega
    · cases h
theorem refW_of {x : U64} (hx : Flat.ok x) {p : Nat} (h : refOf x = some p) : x = refW p ∧ p < 4294967296 := by
  unfold refOf at h
  split at h
  · rename_i k n he
    split at h
    · rename_i hk
      injection h with h
      obtain ⟨h1, h2, h3⟩ := unb_range hx he hk
      have hp : (p : Int) = n := by omega
      refine ⟨?_, by omega⟩
      unfold refW
      rw [hp, h1]
    · cases h
  · cases h

/-! ### what is told -/
def BInv (ws : List U64) (F : List Nat) (i : Nat) : Prop := F.Nodup ∧ (∀ r ∈ F, r ∈ places ws) ∧ ∀ j g, j < i → F[j]? = some g → known F (Hau.tail ws g)
theorem bfs_closed {ws : List U64} (hok : okW ws = true) (hw : wordsOk ws = true) : ∀ (f : Nat) (F : List Nat) (i : Nat), BInv ws F i → ws.length < f + i → (bfs ws f F i).Nodup ∧ (∀ r ∈ bfs ws f F i, r ∈ places ws) ∧ (∀ g ∈ bfs ws f F i, known (bfs ws f F i) (Hau.tail ws g)) ∧ ∃ X, bfs ws f F i = F ++ X
  | 0, F, i, ⟨h1, h2, h3⟩, hf => by
    have hl := len_le hok h1 h2
    refine ⟨h1, h2, fun g hg => ?_, ⟨[], by simp [bfs]⟩⟩
    obtain ⟨j, hj⟩ := List.mem_iff_getElem?.1 (show g ∈ F from hg)
    exact h3 j g (by have := (List.getElem?_eq_some_iff.1 hj).1; omega) hj
  | f + 1, F, i, ⟨h1, h2, h3⟩, hf => by
    unfold bfs
    by_cases hlt : i < F.length
    · rw [if_pos hlt]
      obtain ⟨g, hg⟩ : ∃ g, F[i]? = some g := ⟨_, List.getElem?_eq_getElem hlt⟩
      have hgd : F.getD i 0 = g := by rw [List.getD_eq_getElem?_getD, hg]; rfl
      rw [hgd]
      have hgp := h2 g (List.mem_of_getElem? hg)
      obtain ⟨X, hX⟩ := addAll_pre (Hau.tail ws g) F
      obtain ⟨i1, i2, i3, Y, hY⟩ := bfs_closed hok hw f (addAll F (Hau.tail ws g)) (i + 1) ⟨addAll_nodup _ h1, addAll_sub _ h2 (wordsOk_tail hok hw hgp), fun j g' hj hg' => by
        rcases Nat.lt_or_ge j i with hji | hji
        · rw [hX] at hg' ⊢
          rw [List.getElem?_append_left (by omega)] at hg'
          exact (h3 j g' hji hg').app
        · have : j = i := by omega
          subst this
          have : g' = g := by
            rw [hX, List.getElem?_append_left hlt, hg] at hg'
            exact (Option.some.inj hg').symm
          subst this
          exact addAll_known _ _⟩ (by omega)
      exact ⟨i1, i2, i3, X ++ Y, by rw [hY, hX, List.append_assoc]⟩
    · rw [if_neg hlt]
      refine ⟨h1, h2, fun g hg => ?_, ⟨[], by simp⟩⟩
      obtain ⟨j, hj⟩ := List.mem_iff_getElem?.1 hg
      exact h3 j g (by have := (List.getElem?_eq_some_iff.1 hj).1; omega) hj
theorem addAll_in {S : Nat → Prop} : ∀ (l : List U64) {F : List Nat}, (∀ p ∈ F, S p) → (∀ x ∈ l, ∀ r, refOf x = some r → S r) → ∀ p ∈ addAll F l, S p
  | [], _, h, _ => h
  | x :: l, F, h, hl => by
    unfold addAll
    rw [List.foldl_cons]
    refine addAll_in l (fun p hp => ?_) (fun y hy => hl y (by simp [hy]))
    unfold addW at hp
    split at hp
    · exact h p hp
    · rename_i q hq
      unfold add at hp
      split at hp
      · exact h p hp
      · rcases List.mem_append.1 hp with hp | hp
        · exact h p hp
        · simp at hp; subst hp; exact hl x (by simp) _ hq
theorem bfs_in {ws : List U64} {S : Nat → Prop} (hS : ∀ g, S g → ∀ x ∈ Hau.tail ws g, ∀ r, refOf x = some r → S r) : ∀ (f : Nat) (F : List Nat) (i : Nat), (∀ p ∈ F, S p) → ∀ p ∈ bfs ws f F i, S p
  | 0, F, i, h => h
  | f + 1, F, i, h => by
    unfold bfs
    split
    · rename_i hlt
      have hg : S (F.getD i 0) := by
        rw [List.getD_eq_getElem?_getD, List.getElem?_eq_getElem hlt]; exact h _ (List.getElem_mem hlt)
      exact bfs_in hS f _ _ (addAll_in _ h (hS _ hg))
    · exact h
/-- what is told is closed, has the roots, lies in places, holds nothing twice -/
theorem told_closed {ws roots : List U64} (hok : okW ws = true) (hw : wordsOk ws = true) (hr : rootsOk ws roots = true) : (told ws roots).Nodup ∧ (∀ r ∈ told ws roots, r ∈ places ws) ∧ (∀ g ∈ told ws roots, known (told ws roots) (Hau.tail ws g)) ∧ known (told ws roots) roots := by
  obtain ⟨h1, h2, h3, X, hX⟩ := bfs_closed hok hw (ws.length + 1) (addAll [] roots) 0 ⟨addAll_nodup roots List.nodup_nil, addAll_sub roots (by simp) (fun x hx => List.all_eq_true.1 hr x hx), fun j g hj => by omega⟩ (by omega)
  refine ⟨h1, h2, h3, ?_⟩
  unfold told; rw [hX]
  exact (addAll_known roots []).app
theorem told_in {ws roots : List U64} {S : Nat → Prop} (hS : ∀ g, S g → ∀ x ∈ Hau.tail ws g, ∀ r, refOf x = some r → S r) (hr : ∀ x ∈ roots, ∀ r, refOf x = some r → S r) : ∀ p ∈ told ws roots, S p :=
  bfs_in hS _ _ _ (addAll_in roots (by simp) hr)
end Sto

end Go.Proofs.Ytpkccpegdpodoaa

/- A store and the law's shelf: how one stands for the other; what is needed; what a collection tells. -/
namespace Go.Proofs.Ytpkccpegdpodoaa
open Go.RowKit

namespace Sto
open Hau
/-- a cell of the law's shelf -/
structure Kp where
  mark : Int
  vals : List (Int × Int)
  held : Bool
def refsV (l : List (Int × Int)) : List Int := (l.filter fun v => v.1 == 5).map Prod.snd
def sHas (cs : List Kp) : List (List Int) := cs.map fun c => refsV c.vals
def sRoots (cs : List Kp) : List Int := rising (cs.map Kp.held)
noncomputable def sNeed (cs : List Kp) : List Bool := fromL (sHas cs) (sRoots cs) []
def Nd (cs : List Kp) (n : Nat) : Prop := RT (sHas cs) (sRoots cs) [] n
theorem mem_refsV {l : List (Int × Int)} {k : Int} : k ∈ refsV l ↔ (5, k) ∈ l := by
  unfold refsV
  rw [List.mem_map]
  constructor
  · rintro ⟨⟨a, b⟩, h, rfl⟩
    obtain ⟨h1, h2⟩ := List.mem_filter.1 h
    have : a = 5 := by simpa using h2
    subst this; exact h1
  · intro h; exact ⟨(5, k), List.mem_filter.2 ⟨h, by simp⟩, rfl⟩
theorem Nd.root {cs : List Kp} {n : Nat} {c : Kp} (h : cs[n]? = some c) (hh : c.held = true) : Nd cs n :=
  RT.root ((mem_rising _ _).2 ⟨n, rfl, by rw [List.getElem?_map, h]; simp [hh]⟩)
theorem Nd.edge {cs : List Kp} {n k : Nat} {c : Kp} (h : Nd cs n) (hc : cs[n]? = some c) (hv : ((5 : Int), (k : Int)) ∈ c.vals) : Nd cs k :=
  RT.edge h (by unfold sHas; rw [List.getElem?_map, hc]; rfl) (mem_refsV.2 hv)
theorem Nd.ind {cs : List Kp} {P : Nat → Prop} (h1 : ∀ n c, cs[n]? = some c → c.held = true → P n) (h2 : ∀ (n k : Nat) (c : Kp), Nd cs n → P n → cs[n]? = some c → ((5 : Int), (k : Int)) ∈ c.vals → P k) {n : Nat} (h : Nd cs n) : P n := by
  unfold Nd at h
  induction h with
  | root hr =>
    obtain ⟨m, e, hm⟩ := (mem_rising _ _).1 hr
    rw [List.getElem?_map] at hm
    cases hc : cs[m]? with
    | none => rw [hc] at hm; cases hm
    | some c =>
      rw [hc] at hm
      injection hm with hm
      have : m = _ := Int.ofNat.inj e.symm
      subst this
      exact h1 _ c hc hm
  | @edge n k l hn hl hk ih =>
    unfold sHas at hl
    rw [List.getElem?_map] at hl
    cases hc : cs[n]? with
    | none => rw [hc] at hl; cases hl
    | some c =>
      rw [hc] at hl
      injection hl with hl
      subst hl
      exact h2 n k c hn ih hc (mem_refsV.1 hk)
  | pair _ h _ => simp at h

/-- a word tells a value: a reference tells a cell's place -/
def wd (pl : List Int) (v : Int × Int) (x : U64) : Prop := (v.1 = 5 ∧ ∃ p : Nat, pl[v.2.toNat]? = some (p : Int) ∧ x = refW p) ∨ (v.1 ≠ 5 ∧ unbL x.val = some v)
/-- an object tells a cell -/
def Ob (pl : List Int) (c : Kp) (o : List U64) : Prop := ∃ h b, o = h :: b ∧ h.val = c.mark * 4294967296 + (b.length : Int) ∧ b.length = c.vals.length ∧ ∀ (i : Nat) (v : Int × Int) (x : U64), c.vals[i]? = some v → b[i]? = some x → wd pl v x
structure Sr (obs : List (List U64)) (pl : List Int) (cs : List Kp) : Prop where
  good : ∀ o ∈ obs, Good o
  body : ∀ o ∈ obs, ∀ x ∈ o.tail, fits (starts 0 obs) x = true
  flat : ∀ o ∈ obs, ∀ x ∈ o, Flat.ok x
  small : obs.flatten.length ≤ 2000
  len : pl.length = cs.length
  many : cs.length ≤ 100
  plc : ∀ (n : Nat) (x : Int), pl[n]? = some x → x = -1 ∨ ∃ j, j < obs.length ∧ x = (st obs j : Int)
  inj : ∀ (n m : Nat) (x : Int), pl[n]? = some x → pl[m]? = some x → x ≠ -1 → n = m
  mark : ∀ c ∈ cs, 0 ≤ c.mark ∧ c.mark < 2147483648
  vlen : ∀ c ∈ cs, c.vals.length ≤ 100
  vals : ∀ c ∈ cs, ∀ v ∈ c.vals, I64 v.1 ∧ I64 v.2 ∧ (v.1 = 5 → ∃ k : Nat, v.2 = (k : Int) ∧ k < cs.length)
  need : ∀ (n : Nat) (c : Kp), Nd cs n → cs[n]? = some c → ∃ j o, obs[j]? = some o ∧ pl[n]? = some (st obs j : Int) ∧ Ob pl c o

theorem Sr.nil : Sr [] [] [] := by
  refine ⟨?_, ?_, ?_, ?_, rfl, ?_, ?_, ?_, ?_, ?_, ?_, ?_⟩ <;> simp
theorem Sr.lt {obs : List (List U64)} {pl : List Int} {cs : List Kp} (h : Sr obs pl cs) {n : Nat} (hn : Nd cs n) : ∃ c, cs[n]? = some c := by
  refine hn.ind (P := fun n => ∃ c, cs[n]? = some c) (fun n c hc _ => ⟨c, hc⟩) (fun n k c _ _ hc hv => ?_)
  obtain ⟨k', e, hk⟩ := (h.vals c (List.mem_of_getElem? hc) _ hv).2.2 rfl
  have : k = k' := Int.ofNat.inj e
  subst this
  exact ⟨_, List.getElem?_eq_getElem hk⟩
/-- a needed cell's object -/
theorem Sr.at_ {obs : List (List U64)} {pl : List Int} {cs : List Kp} (h : Sr obs pl cs) {n : Nat} (hn : Nd cs n) : ∃ c j o, cs[n]? = some c ∧ obs[j]? = some o ∧ pl[n]? = some (st obs j : Int) ∧ Ob pl c o := by
  obtain ⟨c, hc⟩ := h.lt hn
  obtain ⟨j, o, h1, h2, h3⟩ := h.need n c hn hc
  exact ⟨c, j, o, hc, h1, h2, h3⟩
theorem Sr.st_lt {obs : List (List U64)} {pl : List Int} {cs : List Kp} (h : Sr obs pl cs) (j : Nat) : st obs j ≤ 2000 := Nat.le_trans (st_le j) h.small

/-- roots: the places of those that are held -/
def rootsFrom : List Int → List Bool → List U64
  | x :: pl, b :: hd => if b = true then refW x.toNat :: rootsFrom pl hd else rootsFrom pl hd
  | _, _ => []
theorem mem_rootsFrom {y : U64} : ∀ {pl : List Int} {hd : List Bool}, y ∈ rootsFrom pl hd ↔ ∃ (n : Nat) (x : Int), pl[n]? = some x ∧ hd[n]? = some true ∧ y = refW x.toNat
  | [], hd => by simp [rootsFrom]
  | x :: pl, [] => by simp [rootsFrom]
  | x :: pl, b :: hd => by
    unfold rootsFrom
    constructor
    · intro h
      have key : y ∈ rootsFrom pl hd → ∃ (n : Nat) (x' : Int), (x :: pl)[n]? = some x' ∧ (b :: hd)[n]? = some true ∧ y = refW x'.toNat := fun h => by
        obtain ⟨n, x', h1, h2, h3⟩ := mem_rootsFrom.1 h
        exact ⟨n + 1, x', by simpa using h1, by simpa using h2, h3⟩
      split at h
      · rename_i hb
        rcases List.mem_cons.1 h with rfl | h
        · exact ⟨0, x, rfl, by simp [hb], rfl⟩
        · exact key h
      · exact key h
    · rintro ⟨n, x', h1, h2, h3⟩
      cases n with
      | zero =>
        simp at h1 h2
        subst h1
        rw [if_pos h2, h3]
        exact List.mem_cons_self ..
      | succ n =>
        have := mem_rootsFrom.2 ⟨n, x', by simpa using h1, by simpa using h2, h3⟩
        split
        · exact List.mem_cons_of_mem _ this
        · exact this
theorem rootsFrom_length : ∀ {pl : List Int} {hd : List Bool}, (rootsFrom pl hd).length ≤ hd.length
  | [], hd => by simp [rootsFrom]
  | x :: pl, [] => by simp [rootsFrom]
  | x :: pl, b :: hd => by
    unfold rootsFrom
    have := rootsFrom_length (pl := pl) (hd := hd)
    split <;> simp <;> omega
def sroots (pl : List Int) (cs : List Kp) : List U64 := rootsFrom pl (cs.map Kp.held)

theorem wd_ref {pl : List Int} {v : Int × Int} {x : U64} (h : wd pl v x) {r : Nat} (hr : refOf x = some r) (hsm : ∀ (n : Nat) (p : Nat), pl[n]? = some (p : Int) → p < 4294967296) : v.1 = 5 ∧ pl[v.2.toNat]? = some (r : Int) := by
  rcases h with ⟨h1, p, h2, rfl⟩ | ⟨h1, h2⟩
  · rw [refOf_refW (hsm _ _ h2)] at hr
    injection hr with hr
    subst hr
    exact ⟨h1, h2⟩
  · obtain ⟨a, b⟩ := v
    rw [refOf_of h2] at hr
    rw [if_neg h1] at hr
    cases hr
theorem Sr.psm {obs : List (List U64)} {pl : List Int} {cs : List Kp} (h : Sr obs pl cs) (n p : Nat) (hp : pl[n]? = some (p : Int)) : p < 4294967296 := by
  rcases h.plc n _ hp with e | ⟨j, _, e⟩
  · omega
  · have := h.st_lt j
    omega
/-- the words are a heap that may be collected -/
theorem Sr.heapOk {obs : List (List U64)} {pl : List Int} {cs : List Kp} (h : Sr obs pl cs) : okW obs.flatten = true ∧ wordsOk obs.flatten = true ∧ rootsOk obs.flatten (sroots pl cs) = true ∧ heapErr ⟨obs.flatten, sroots pl cs⟩ = 0 := by
  obtain ⟨h1, h2⟩ := places_st h.good
  have h3 := wordsOk_st h.good h.body
  have h4 : rootsOk obs.flatten (sroots pl cs) = true := by
    unfold rootsOk
    rw [h1, List.all_eq_true]
    intro y hy
    obtain ⟨n, x, hx, hh, rfl⟩ := mem_rootsFrom.1 hy
    rw [List.getElem?_map] at hh
    cases hc : cs[n]? with
    | none => rw [hc] at hh; cases hh
    | some c =>
      rw [hc] at hh
      injection hh with hh
      obtain ⟨j, o, g1, g2, g3⟩ := h.need n c (Nd.root hc hh) hc
      rw [hx] at g2
      injection g2 with g2
      subst g2
      have hsm := h.st_lt j
      unfold fits
      rw [Int.toNat_natCast, unb_refW (by omega)]
      simp only [ne_eq, not_true_eq_false, decide_false, Bool.false_or, Int.toNat_natCast]
      exact List.contains_iff_mem.2 (mem_starts.2 ⟨j, (List.getElem?_eq_some_iff.1 g1).1, rfl⟩)
  refine ⟨h2, h3, h4, ?_⟩
  have hr : (sroots pl cs).length ≤ 100 := by
    have := rootsFrom_length (pl := pl) (hd := cs.map Kp.held)
    rw [List.length_map] at this
    have := h.many
    unfold sroots; omega
  unfold heapErr
  have := h.small
  rw [if_neg (by simp only; omega), if_neg (by simp [h2]), if_neg (by simp [h3]), if_neg (by simp [h4])]
/-- what is told: the places of the needed cells -/
theorem Sr.told_iff {obs : List (List U64)} {pl : List Int} {cs : List Kp} (h : Sr obs pl cs) (p : Nat) : p ∈ told obs.flatten (sroots pl cs) ↔ ∃ n, Nd cs n ∧ pl[n]? = some (p : Int) := by
  obtain ⟨k1, k2, k3, -⟩ := h.heapOk
  constructor
  · refine told_in (S := fun p => ∃ n, Nd cs n ∧ pl[n]? = some (p : Int)) ?_ ?_ p
    · rintro g ⟨n, hn, hg⟩ x hx r hr
      obtain ⟨c, j, o, e1, e2, e3, hh, b, rfl, e5, e6, e7⟩ := h.at_ hn
      rw [e3] at hg
      have hg : st obs j = g := by injection hg with hg; omega
      subst hg
      rw [tail_st h.good e2] at hx
      obtain ⟨i, hi⟩ := List.mem_iff_getElem?.1 hx
      have hib := (List.getElem?_eq_some_iff.1 hi).1
      obtain ⟨v, hv⟩ : ∃ v, c.vals[i]? = some v := ⟨_, List.getElem?_eq_getElem (by omega)⟩
      obtain ⟨f1, f2⟩ := wd_ref (e7 i v x hv hi) hr h.psm
      obtain ⟨k, ek, -⟩ := (h.vals c (List.mem_of_getElem? e1) v (List.mem_of_getElem? hv)).2.2 f1
      rw [ek, Int.toNat_natCast] at f2
      refine ⟨k, hn.edge e1 ?_, f2⟩
      have : v = (5, (k : Int)) := Prod.ext f1 ek
      rw [← this]
      exact List.mem_of_getElem? hv
    · intro y hy r hr
      obtain ⟨n, x, hx, hh, rfl⟩ := mem_rootsFrom.1 hy
      rw [List.getElem?_map] at hh
      cases hc : cs[n]? with
      | none => rw [hc] at hh; cases hh
      | some c =>
        rw [hc] at hh
        injection hh with hh
        have hnd := Nd.root hc hh
        obtain ⟨j, o, g1, g2, g3⟩ := h.need n c hnd hc
        rw [hx] at g2
        injection g2 with g2
        subst g2
        have hsm := h.st_lt j
        rw [Int.toNat_natCast, refOf_refW (by omega)] at hr
        injection hr with hr
        exact ⟨n, hnd, by rw [hx, hr]⟩
  · rintro ⟨n, hn, hp⟩
    obtain ⟨t1, t2, t3, t4⟩ := told_closed k1 k2 k3
    have key : ∀ n, Nd cs n → ∀ p : Nat, pl[n]? = some (p : Int) → p ∈ told obs.flatten (sroots pl cs) := by
      intro n hn
      refine hn.ind (P := fun n => ∀ p : Nat, pl[n]? = some (p : Int) → p ∈ told obs.flatten (sroots pl cs)) (fun n c hc hh p hp => ?_) (fun n k c hn ih hc hv p hp => ?_)
      · refine t4 (refW p) ?_ p (refOf_refW (h.psm n p hp))
        exact mem_rootsFrom.2 ⟨n, (p : Int), hp, by rw [List.getElem?_map, hc]; simp [hh], by rw [Int.toNat_natCast]⟩
      · obtain ⟨j, o, g2, g3, hh, b, rfl, e5, e6, e7⟩ := h.need n c hn hc
        have hin := ih _ g3
        obtain ⟨i, hi⟩ := List.mem_iff_getElem?.1 hv
        have hib := (List.getElem?_eq_some_iff.1 hi).1
        obtain ⟨x, hx⟩ : ∃ x, b[i]? = some x := ⟨_, List.getElem?_eq_getElem (by omega)⟩
        refine t3 _ hin x (by rw [tail_st h.good g2]; exact List.mem_of_getElem? hx) p ?_
        rcases e7 i _ x hi hx with ⟨_, q, hq, rfl⟩ | ⟨h1, _⟩
        · simp only [Int.toNat_natCast] at hq
          rw [hp] at hq
          injection hq with hq
          have : p = q := by omega
          subst this
          exact refOf_refW (h.psm _ _ hp)
        · exact absurd rfl h1
    exact key n hn p hp
end Sto

end Go.Proofs.Ytpkccpegdpodoaa

/- The law's shelf as it lies: cells in a row, each with a row of values of its own. -/
namespace Go.Proofs.Ytpkccpegdpodoaa
open Go.RowKit

/-- a cell of the shelf as it lies -/
structure KpR where
  mark : Int
  A : Option Addr
  c : Nat
  vals : List (Int × Int)
  held : Bool
instance : Flat KpR where
  cells x := [.int .i64 x.mark, .slice x.A x.vals.length x.c, .bool x.held]
  sz := 3
  len _ := rfl
  ok _ := True
def KpR.kp (x : KpR) : Sto.Kp := ⟨x.mark, x.vals, x.held⟩
theorem kpr_one : ∀ x : KpR, ∀ u ∈ Flat.cells x, u.oneCell' = true := by
  intro x u hu
  simp only [Flat.cells, List.mem_cons, List.not_mem_nil, or_false] at hu
  rcases hu with rfl | rfl | rfl <;> rfl

structure Kps (w : World) (base : Nat) (F : Nat → Prop) (A : Option Addr) (c : Nat) (l : List KpR) : Prop where
  row : Own w base 121 A c l
  foot : ∀ g, rowOf A = some g → F g
  sub : ∀ (i : Nat) (x : KpR), l[i]? = some x → Own w base 23 x.A x.c x.vals ∧ (∀ g, rowOf x.A = some g → F g) ∧ (∀ v ∈ x.vals, Flat.ok v) ∧ I64 x.mark
  apart : ∀ (i j : Nat) (x y : KpR), i ≠ j → l[i]? = some x → l[j]? = some y → ∀ g, rowOf x.A = some g → rowOf y.A ≠ some g

section
variable {w w' : World} {base : Nat} {F F' : Nat → Prop} {A : Option Addr} {c : Nat} {l : List KpR}
theorem Kps.keep (h : Kps w base F A c l) (hk : ∀ g, F g → g < w.heap.size → w'.heap[g]? = w.heap[g]?) : Kps w' base F A c l :=
  ⟨h.row.block_ (fun g hg => hk g (h.foot g hg) (h.row.lt g hg).2), h.foot, fun i x hx => ⟨(h.sub i x hx).1.block_ (fun g hg => hk g ((h.sub i x hx).2.1 g hg) ((h.sub i x hx).1.lt g hg).2), (h.sub i x hx).2⟩, h.apart⟩
theorem Kps.mono (h : Kps w base F A c l) (hF : ∀ g, F g → F' g) : Kps w base F' A c l :=
  ⟨h.row, fun g hg => hF g (h.foot g hg), fun i x hx => ⟨(h.sub i x hx).1, fun g hg => hF g ((h.sub i x hx).2.1 g hg), (h.sub i x hx).2.2⟩, h.apart⟩
theorem Kps.fresh (h : Kps w base F A c l) (hb : Below w.heap.size w w') : Kps w' base F A c l := h.keep fun g _ hg => hb.block g hg
theorem Kps.alloc (h : Kps w base F A c l) (o : Obj) : Kps (w.alloc o) base F A c l := h.keep fun g _ hg => Below.heap_alloc w o g hg
theorem Kps.drewN (h : Kps w base F A c l) (n : Nat) : Kps (w.drewN n) base F A c l := h.keep fun _ _ _ => rfl
theorem Kps.row_ne (h : Kps w base F A c l) {i : Nat} {x : KpR} (hx : l[i]? = some x) : ∀ g, rowOf A = some g → rowOf x.A ≠ some g := own_own_ty h.row (h.sub i x hx).1 (by decide)
theorem Kps.far_blk (h : Kps w base F A c l) {g : Nat} {t : TypeId} {cs : Array Value} (hg : Blk w g t cs) (h1 : 121 ≠ t) (h2 : 23 ≠ t) (i : Nat) (u : Value) : Kps (w.setCell ⟨g, i, none⟩ u) base F A c l :=
  ⟨h.row.setCell _ _ (own_ne_ty h.row hg h1), h.foot, fun j x hx => ⟨(h.sub j x hx).1.setCell _ _ (own_ne_ty (h.sub j x hx).1 hg h2), (h.sub j x hx).2⟩, h.apart⟩
theorem Kps.cells (h : Kps w base F A c l) {i : Nat} {x : KpR} (hx : l[i]? = some x) :
    ∃ g, A = some ⟨g, 0, none⟩ ∧ base ≤ g ∧ g < w.heap.size ∧ w.cell? ⟨g, i * 3, none⟩ = some (.int .i64 x.mark) ∧ w.cell? ⟨g, i * 3 + 1, none⟩ = some (.slice x.A x.vals.length x.c) ∧ w.cell? ⟨g, i * 3 + 2, none⟩ = some (.bool x.held) := by
  have hi : i < l.length := (List.getElem?_eq_some_iff.1 hx).1
  obtain ⟨g, rfl, h1, h2⟩ := h.row.some_ (by omega)
  have hc := h.row.cells_ (g := g) (o := 0) rfl
  have e0 := hc (i * 3 + 0) _ (flat_get l i 0 x hx (by decide))
  have e1 := hc (i * 3 + 1) _ (flat_get l i 1 x hx (by decide))
  have e2 := hc (i * 3 + 2) _ (flat_get l i 2 x hx (by decide))
  simp only [Nat.zero_add, Nat.add_zero] at e0 e1 e2
  exact ⟨g, rfl, h1, h2, e0, e1, e2⟩
/-- the row has another element: its values lie where they lay, or in a new row -/
theorem Kps.upd {x y : KpR} {i : Nat} (h : Kps w base F A c l) (hx : l[i]? = some x) (hrow : Own w' base 121 A c (l.set i y)) (hsub : Own w' base 23 y.A y.c y.vals) (hoth : ∀ k, k < w.heap.size → rowOf A ≠ some k → rowOf x.A ≠ some k → w'.heap[k]? = w.heap[k]?)
    (hF : ∀ g, F g → F' g) (hy : ∀ g, rowOf y.A = some g → F' g ∧ (rowOf x.A = some g ∨ ¬ F g)) (hok : ∀ v ∈ y.vals, Flat.ok v) (hm : I64 y.mark) : Kps w' base F' A c (l.set i y) := by
  refine ⟨hrow, fun g hg => hF g (h.foot g hg), fun j z hz => ?_, fun a b z1 z2 hab h1 h2 => ?_⟩
  · rcases set_case hz with ⟨rfl, hl, rfl⟩ | ⟨hne, hz⟩
    · exact ⟨hsub, fun g hg => (hy g hg).1, hok, hm⟩
    · have hzs := h.sub j z hz
      exact ⟨hzs.1.block_ (fun k hk => hoth k (hzs.1.lt k hk).2 (fun e => h.row_ne hz k e hk) (fun e => h.apart j i z x hne hz hx k hk e)), fun g hg => hF g (hzs.2.1 g hg), hzs.2.2⟩
  · intro k hk1
    rcases set_case h1 with ⟨rfl, _, rfl⟩ | ⟨hne1, q1⟩
    · rcases set_case h2 with ⟨rfl, _, rfl⟩ | ⟨hne2, q2⟩
      · exact absurd rfl hab
      · intro hk2
        rcases (hy k hk1).2 with e | e
        · exact h.apart _ b x z2 (fun e => hne2 e.symm) hx q2 k e hk2
        · exact e ((h.sub b z2 q2).2.1 k hk2)
    · rcases set_case h2 with ⟨rfl, _, rfl⟩ | ⟨hne2, q2⟩
      · intro hk2
        rcases (hy k hk2).2 with e | e
        · exact h.apart a _ z1 x hne1 q1 hx k hk1 e
        · exact e ((h.sub a z1 q1).2.1 k hk1)
      · exact h.apart a b z1 z2 hab q1 q2 k hk1
theorem Kps.setHeld {g i : Nat} {x : KpR} (h : Kps w base F (some ⟨g, 0, none⟩) c l) (hx : l[i]? = some x) (b : Bool) :
    Kps (w.setCell ⟨g, i * 3 + 2, none⟩ (.bool b)) base F (some ⟨g, 0, none⟩) c (l.set i { x with held := b }) :=
  h.upd hx (h.row.set_ (j := 2) (y := { x with held := b }) (u := .bool b) rfl hx (by decide) rfl) ((h.sub i x hx).1.setCell _ _ (fun e => h.row_ne hx g rfl e)) (fun k _ h1 _ => Below.heap_setCell _ _ _ _ (fun e => h1 (by simp only at e; rw [e]; rfl))) (fun _ hg => hg)
    (fun k hk => ⟨(h.sub i x hx).2.1 k hk, .inl hk⟩) (h.sub i x hx).2.2.1 (h.sub i x hx).2.2.2
/-- a value is set -/
theorem Kps.setVal {g i j : Nat} {x : KpR} {a b : Int} {v : Int × Int} (h : Kps w base F A c l) (hx : l[i]? = some x) (hA : x.A = some ⟨g, 0, none⟩) (hv : x.vals[j]? = some v) (ha : I64 a) (hb : I64 b) :
    Kps ((w.setCell ⟨g, j * 2, none⟩ (.int .i64 a)).setCell ⟨g, j * 2 + 1, none⟩ (.int .i64 b)) base F A c (l.set i { x with vals := x.vals.set j (a, b) }) := by
  have hxs := h.sub i x hx
  have hne : rowOf A ≠ some g := fun e => h.row_ne hx g e (by rw [hA]; rfl)
  have hsame : flat (l.set i { x with vals := x.vals.set j (a, b) }) = flat l := by
    have := flat_set l i x 0 (.int .i64 x.mark) { x with vals := x.vals.set j (a, b) } hx (by decide) (by simp [Flat.cells])
    rw [← this]
    have hg := flat_get l i 0 x hx (by decide)
    apply List.ext_getElem?
    intro k
    rw [List.getElem?_set]
    split
    · rename_i e
      subst e
      rw [hg]
      have := (List.getElem?_eq_some_iff.1 (hg.trans (by rfl : (Flat.cells x)[0]? = some (.int .i64 x.mark)))).1
      rw [if_pos this]; rfl
    · rfl
  refine h.upd hx ?_ ?_ (fun k _ h1 h2 => ?_) (fun _ hg => hg) (fun k hk => ⟨hxs.2.1 k hk, .inl hk⟩) (fun u hu => ?_) hxs.2.2.2
  · have := (h.row.setCell ⟨g, j * 2, none⟩ (.int .i64 a) hne).setCell ⟨g, j * 2 + 1, none⟩ (.int .i64 b) hne
    unfold Own at this ⊢
    rw [List.length_set, hsame]
    exact this
  · have h0 := hxs.1
    rw [hA] at h0
    simp only [hA]
    exact h0.set_two rfl (fun _ => rfl) hv
  · have hk : k ≠ g := fun e => h2 (by rw [hA, e]; rfl)
    rw [Below.heap_setCell _ _ _ _ hk, Below.heap_setCell _ _ _ _ hk]
  · rcases List.mem_or_eq_of_mem_set hu with e | e
    · exact hxs.2.2.1 u e
    · rw [e]; exact ⟨ha, hb⟩
/-- one more cell -/
theorem Kps.push {A' : Option Addr} {c' : Nat} {m : Int} {b : Bool} (h : Kps w base F A c l) (hrow : Own w' base 121 A' c' (l ++ [⟨m, none, 0, [], b⟩])) (hg : w.grownBy w' (rowOf A)) (hF : ∀ g, F g → F' g)
    (hnew : ∀ g, rowOf A' = some g → F' g) (hm : I64 m) : Kps w' base F' A' c' (l ++ [⟨m, none, 0, [], b⟩]) := by
  have case_ : ∀ {i : Nat} {x : KpR}, (l ++ [(⟨m, none, 0, [], b⟩ : KpR)])[i]? = some x → l[i]? = some x ∨ i = l.length ∧ x = ⟨m, none, 0, [], b⟩ := by
    intro i x hi
    have hlt := (List.getElem?_eq_some_iff.1 hi).1
    rw [List.length_append, List.length_singleton] at hlt
    by_cases e : i < l.length
    · rw [List.getElem?_append_left e] at hi; exact .inl hi
    · obtain rfl : i = l.length := by omega
      simp at hi; exact .inr ⟨rfl, hi.symm⟩
  refine ⟨hrow, hnew, fun i x hx => ?_, fun i j a b hij h1 h2 g hg1 hg2 => ?_⟩
  · rcases case_ hx with hx | ⟨-, rfl⟩
    · exact ⟨(h.sub i x hx).1.grown hg (fun g hg' e => h.row_ne hx g e hg'), fun g hg' => hF g ((h.sub i x hx).2.1 g hg'), (h.sub i x hx).2.2⟩
    · refine ⟨Own.nil_, fun g hg => ?_, fun v hv => ?_, hm⟩
      · simp [rowOf] at hg
      · simp at hv
  · rcases case_ h1 with q1 | ⟨e1, rfl⟩
    · rcases case_ h2 with q2 | ⟨e2, rfl⟩
      · exact h.apart i j a b hij q1 q2 g hg1 hg2
      · simp [rowOf] at hg2
    · simp [rowOf] at hg1
theorem Kps.nil_ (w : World) (base : Nat) (F : Nat → Prop) : Kps w base F none 0 [] := ⟨Own.nil_, fun g h => (by cases h), fun i x h => (by simp at h), fun i j x y _ h => (by simp at h)⟩
end

def kps (l : List KpR) : List Sto.Kp := l.map KpR.kp
theorem kps_length (l : List KpR) : (kps l).length = l.length := by simp [kps]
theorem kps_get {l : List KpR} {i : Nat} {x : KpR} (h : l[i]? = some x) : (kps l)[i]? = some x.kp := by unfold kps; rw [List.getElem?_map, h]; rfl
theorem get_kps {l : List KpR} {i : Nat} {y : Sto.Kp} (h : (kps l)[i]? = some y) : ∃ x, l[i]? = some x ∧ x.kp = y := by
  unfold kps at h
  rw [List.getElem?_map] at h
  cases hs : l[i]? with
  | none => rw [hs] at h; cases h
  | some x => rw [hs] at h; injection h with h; exact ⟨x, rfl, h⟩
theorem kps_set (l : List KpR) (i : Nat) (y : KpR) : kps (l.set i y) = (kps l).set i y.kp := by unfold kps; rw [List.map_set]

/-- THE SHELF at block p: its cells -/
def Shf (w : World) (base : Nat) (F : Nat → Prop) (p : Nat) (cs : List Sto.Kp) : Prop :=
  ∃ (A : Option Addr) (c : Nat) (l : List KpR), Blk w p 111 #[.slice A l.length c] ∧ Kps w base F A c l ∧ F p ∧ base ≤ p ∧ kps l = cs
section
variable {w w' : World} {base p : Nat} {F G : Nat → Prop} {cs : List Sto.Kp}
theorem Shf.keep (h : Shf w base F p cs) (hk : ∀ g, F g → g < w.heap.size → w'.heap[g]? = w.heap[g]?) : Shf w' base F p cs := by
  obtain ⟨A, c, l, h1, h2, h3, h4, h5⟩ := h
  exact ⟨A, c, l, (hk p h3 h1.lt).trans h1, h2.keep hk, h3, h4, h5⟩
theorem Shf.fresh (h : Shf w base F p cs) (hb : Below w.heap.size w w') : Shf w' base F p cs := h.keep fun g _ hg => hb.block g hg
theorem Shf.drewN (h : Shf w base F p cs) (n : Nat) : Shf (w.drewN n) base F p cs := h.keep fun _ _ _ => rfl
theorem Shf.touch (h : Shf w base F p cs) (ht : Touch G w w') (hn : ∀ g, F g → ¬ G g) : Shf w' base F p cs := h.keep fun g hg hl => ht.block g hl (hn g hg)
theorem Shf.mono (h : Shf w base F p cs) (hF : ∀ g, F g → G g) : Shf w base G p cs := by
  obtain ⟨A, c, l, h1, h2, h3, h4, h5⟩ := h
  exact ⟨A, c, l, h1, h2.mono hF, hF p h3, h4, h5⟩
theorem Shf.lt (h : Shf w base F p cs) : p < w.heap.size := by obtain ⟨A, c, l, h1, -⟩ := h; exact h1.lt
end

namespace Sto
/-- a shelf whose graph is right -/
structure Kok (cs : List Kp) : Prop where
  small : cs.length ≤ 100
  vlen : ∀ c ∈ cs, c.vals.length ≤ 100
  vals : ∀ c ∈ cs, ∀ v ∈ c.vals, I64 v.1 ∧ I64 v.2 ∧ (v.1 = 5 → ∃ k : Nat, v.2 = (k : Int) ∧ k < cs.length)
  mark : ∀ c ∈ cs, 0 ≤ c.mark ∧ c.mark < 2147483648
theorem Sr.kok {obs : List (List U64)} {pl : List Int} {cs : List Kp} (h : Sr obs pl cs) : Kok cs := ⟨h.many, h.vlen, h.vals, h.mark⟩
theorem sHas_length (cs : List Kp) : (sHas cs).length = cs.length := by simp [sHas]
theorem Kok.right {cs : List Kp} (h : Kok cs) : Right (sHas cs) := by
  intro l hl x hx
  unfold sHas at hl
  obtain ⟨c, hc, rfl⟩ := List.mem_map.1 hl
  obtain ⟨k, h1, h2⟩ := (h.vals c hc _ (mem_refsV.1 hx)).2.2 rfl
  exact ⟨k, h1, by rw [sHas_length]; exact h2⟩
theorem Kok.rightL {cs : List Kp} (_ : Kok cs) : RightL (sHas cs).length (sRoots cs) := by
  intro x hx
  obtain ⟨n, rfl, hn⟩ := (mem_rising _ _).1 hx
  have := (List.getElem?_eq_some_iff.1 hn).1
  rw [List.length_map] at this
  exact ⟨n, rfl, by rw [sHas_length]; exact this⟩
theorem Kok.hlen {cs : List Kp} (h : Kok cs) : ∀ l ∈ sHas cs, l.length ≤ 1000 := by
  intro l hl
  unfold sHas at hl
  obtain ⟨c, hc, rfl⟩ := List.mem_map.1 hl
  have h1 := h.vlen c hc
  have h2 : (refsV c.vals).length ≤ c.vals.length := by unfold refsV; rw [List.length_map]; exact List.length_filter_le _ _
  omega
theorem sHas_take (cs : List Kp) (k : Nat) (c : Kp) (h : cs[k]? = some c) : sHas (cs.take (k + 1)) = sHas (cs.take k) ++ [refsV c.vals] := by
  unfold sHas; rw [List.take_add_one, h]; simp
theorem sRoots_take (cs : List Kp) (k : Nat) (c : Kp) (h : cs[k]? = some c) : sRoots (cs.take (k + 1)) = sRoots (cs.take k) ++ if c.held = true then [(k : Int)] else [] := by
  unfold sRoots
  rw [List.map_take, List.map_take]
  exact rising_snoc _ _ _ (by rw [List.getElem?_map, h]; rfl)
theorem sRoots_len (cs : List Kp) : (sRoots cs).length ≤ cs.length := by
  unfold sRoots; have := rising_length (cs.map Kp.held); rw [List.length_map] at this; exact this
theorem refsV_take (l : List (Int × Int)) (k : Nat) (v : Int × Int) (h : l[k]? = some v) : refsV (l.take (k + 1)) = refsV (l.take k) ++ if v.1 = 5 then [v.2] else [] := by
  unfold refsV
  rw [List.take_add_one, h]
  simp only [Option.toList_some, List.filter_append, List.map_append]
  by_cases hp : v.1 = 5
  · rw [if_pos hp]; simp [hp]
  · rw [if_neg hp]; simp [hp]
end Sto

end Go.Proofs.Ytpkccpegdpodoaa

/- weak: a reacher of things: one list reached. -/
namespace Go.Proofs.Ytpkccpegdpodoaa
open Go.RowKit

theorem infoInt : (Try.prog.info? 3).map (fun i => (i.zero, i.size, i.bytes)) = some (some (.int .i64 0), 1, 8) := by kernel_rfl
theorem int_one : ∀ x : Int, ∀ u ∈ Flat.cells x, u.oneCell' = true := by
  intro x u hu; simp [Flat.cells] at hu; subst hu; rfl
theorem At.int_ {w : World} {B : Nat} {A : Option Addr} {l : List Int} {k : Nat} (h : At w B A l) (hk : k < l.length) :
    ∃ b o x, A = some ⟨b, o, none⟩ ∧ b < B ∧ l[k]? = some x ∧ I64 x ∧ w.cell? ⟨b, o + k, none⟩ = some (.int .i64 x) := by
  obtain ⟨x, hx⟩ : ∃ x, l[k]? = some x := ⟨l[k], List.getElem?_eq_getElem hk⟩
  obtain ⟨b, o, cs, rfl, hb, hc, rfl, hok⟩ := h k x hx
  have h0 := hc 0 _ rfl
  simp only [Flat.sz, Enc.sz, Nat.mul_one, Nat.add_zero] at h0
  exact ⟨b, o, x, rfl, hb, hx, hok, h0⟩

theorem At.pair {w : World} {B : Nat} {A : Option Addr} {l : List (Int × Int)} {k : Nat} (h : At w B A l) (hk : k < l.length) :
    ∃ b o x y, A = some ⟨b, o, none⟩ ∧ b < B ∧ l[k]? = some (x, y) ∧ I64 x ∧ I64 y ∧ w.cell? ⟨b, o + k * 2, none⟩ = some (.int .i64 x) ∧ w.cell? ⟨b, o + k * 2 + 1, none⟩ = some (.int .i64 y) := by
  obtain ⟨x, hx⟩ : ∃ x, l[k]? = some x := ⟨l[k], List.getElem?_eq_getElem hk⟩
  obtain ⟨b, o, cs, rfl, hb, hc, rfl, hok⟩ := h k x hx
  exact ⟨b, o, x.1, x.2, rfl, hb, hx, hok.1, hok.2, hc 0 _ rfl, hc 1 _ rfl⟩
/-- a reacher at block R: what it has seen, what is still to be gone on from -/
def Rch (w : World) (base R : Nat) (hv rv : Value) (seen : List Bool) (todo : List Int) : Prop :=
  ∃ (S T : Option Addr) (c d : Nat), Blk w R 214 #[hv, rv, .slice S seen.length c, .slice T todo.length d] ∧ Own w base 4 S c seen ∧ Own w base 3 T d todo ∧ base ≤ R

set_option maxHeartbeats 800000 in
set_option maxRecDepth 100000 in
theorem reach_core (R base B c d lc : Nat) (L S T : Option Addr) (hv rv : Value) (seen : List Bool) (todo l : List Int) (w : World) (hR : Blk w R 214 #[hv, rv, .slice S seen.length c, .slice T todo.length d]) (hS : Own w base 4 S c seen) (hT : Own w base 3 T d todo) (hbR : base ≤ R) (hbase : base ≤ w.heap.size)
    (hl : At w B L l) (hB : B ≤ w.heap.size) (hL : l ≠ [] → ∀ g, rowOf L = some g → g ≠ R ∧ rowOf S ≠ some g ∧ rowOf T ≠ some g) (hin : RightL seen.length l) (hll : todo.length + l.length ≤ 1000000) (hsl : seen.length ≤ 9223372036854775807) :
    Calls Try.prog 168 #[.pointer (some ⟨R, 0, none⟩), .slice L l.length lc] w fun e w' => e = .returned (.tuple #[]) ∧ Rch w' base R hv rv (reachL l (seen, todo)).1 (reachL l (seen, todo)).2 ∧ Below base w w' := by
  obtain ⟨i0, hi, hz0, hz1, hz2⟩ := info_parts infoInt
  have HL0 := Lib.hid hL; clear hL
  have HIN := Lib.hid hin; clear hin
  go_enter Try.func168, Try.ntmps168
  go_wp2
  go_loopg [8] (l.length) (fun gk i wr => ∃ (k : Nat) (T1 : Option Addr) (d1 : Nat), k ≤ l.length ∧ gk = l.length - k ∧ i = .int .i64 k ∧ Hid (Blk wr R 214 #[hv, rv, .slice S seen.length c, .slice T1 (reachL (l.take k) (seen, todo)).2.length d1] ∧ Own wr base 4 S c (reachL (l.take k) (seen, todo)).1 ∧ Own wr base 3 T1 d1 (reachL (l.take k) (seen, todo)).2 ∧ At wr B L l ∧ (l ≠ [] → ∀ g, rowOf L = some g → rowOf T1 ≠ some g) ∧ (reachL (l.take k) (seen, todo)).2.length ≤ todo.length + k) ∧ Below base w wr ∧ B ≤ wr.heap.size)
  case atStart => exact ⟨0, T, d, Nat.zero_le _, rfl, rfl, ⟨hR, hS, hT, hl, fun hn g hg => (HL0.out hn g hg).2.2, Nat.le_refl _⟩, Below.refl _ _, hB⟩
  case round =>
    obtain ⟨k, T1, d1, hk, rfl, rfl, hkeep, hbl, hBw⟩ := hrel
    have hsz := hbl.size
    by_cases hlt : k < l.length
    · obtain ⟨k1, k2, k3, k4, k5, k6⟩ := hkeep.out
      have hnl : l ≠ [] := List.ne_nil_of_length_pos (by omega)
      have HNL := Lib.hid hnl; clear hnl
      obtain ⟨b, o, x, rfl, hb, hx, hok, h0⟩ := k4.int_ hlt
      obtain ⟨n, rfl, hn⟩ := HIN.out x (List.mem_of_getElem? hx)
      have hlen : (reachL (l.take k) (seen, todo)).1.length = seen.length := reachL_len _ _
      have hsn := reachL_snoc l k _ (seen, todo) hx
      obtain ⟨g, rfl, hg1, hg2⟩ := k2.some_ (by omega)
      obtain ⟨s, hs⟩ : ∃ s, (reachL (l.take k) (seen, todo)).1[n]? = some s := ⟨_, List.getElem?_eq_getElem (by omega)⟩
      have c1 := k2.cell_bool hs
      have r2 := k1.cell 2 rfl
      have r3 := k1.cell 3 rfl
      have z3 := k1.frozen 3
      have zg := k2.frozen (g := g) rfl n
      have n0 : (0 : Int) ≤ (n : Int) := by omega
      have n1 : (n : Int) < (seen.length : Int) := by omega
      have hne := own_ne_ty k2 k1 (by decide)
      have hgR : g ≠ R := fun e => hne (by rw [e]; rfl)
      have HNE := Lib.hid hne; clear hne
      cases s with
      | true =>
        have e1 : reach1 (reachL (l.take k) (seen, todo)) (n : Int) = reachL (l.take k) (seen, todo) := by unfold reach1; rw [if_pos (by rw [Int.toNat_natCast]; exact getD_true.2 hs)]
        rw [e1] at hsn
        have HS := Lib.hid hsn; clear hsn e1 hs
        have HK := Lib.hid (And.intro k1 (And.intro k2 (And.intro k3 (And.intro k4 (And.intro k5 k6))))); clear k1 k2 k3 k4 k5 k6 hkeep hx hlen
        go_wp2
        go_roundg (l.length - (k + 1))
        case measure => omega
        case rel => exact ⟨k + 1, T1, d1, by omega, rfl, by go_num, by unfold Hid; rw [HS.out]; obtain ⟨k1, k2, k3, k4, k5, k6⟩ := HK.out; exact ⟨k1, k2, k3, k4, k5, by omega⟩, hbl, hBw⟩
      | false =>
        have e1 : reach1 (reachL (l.take k) (seen, todo)) (n : Int) = ((reachL (l.take k) (seen, todo)).1.set n true, (reachL (l.take k) (seen, todo)).2 ++ [(n : Int)]) := by
          unfold reach1; rw [if_neg (by rw [Int.toNat_natCast, getD_true, hs]; simp), Int.toNat_natCast]
        rw [e1] at hsn
        have hR2 := k1.far (p := ⟨g, n, none⟩) (fun e => hgR e.symm) (.bool true)
        have hS2 := k2.set_bool true (i := n) (by omega)
        have hT2 := k3.setCell ⟨g, n, none⟩ (.bool true) (fun e => own_own_ty k2 k3 (by decide) g rfl e)
        have hl2 := k4.far_ (p := ⟨g, n, none⟩) (fun e => (HL0.out HNL.out g e).2.1 rfl) (.bool true)
        have r3' := hR2.cell 3 rfl
        have z3' := hR2.frozen 3
        have hb2 := hbl.setCell (p := ⟨g, n, none⟩) hg1 (.bool true)
        have k6' := k6
        have HS := Lib.hid hsn; clear hsn e1 hs
        have HK := Lib.hid (And.intro hR2 (And.intro hS2 (And.intro hT2 (And.intro hl2 (And.intro k5 k6))))); clear k1 k2 k3 k4 k5 k6 hkeep hx hlen hR2 hS2 hT2 hl2
        go_wp2_with (at_builtin; go_must (refine wpList_app (α := Int) (m := 1) (B := wr.heap.size + 1) (r := [(n : Int)]) rfl (.tmp 30) (.tmp 32) _ rfl base 3 i0 _ 8 Try.underlying47 hi hz0 hz1 hz2 rfl (by decide) int_one (by rfl) rfl (HK.out.2.2.1.alloc _) (by rfl) ?_ rfl (by omega) (by simp only [maxLen]; omega) (by simp; omega) ?_))
        · have := At.built (wr.setCell ⟨g, n, none⟩ (.bool true)) #[.int .i64 n] 3 [(n : Int)] rfl (by intro z hz; simp at hz; subst hz; exact (by unfold I64; omega : I64 n))
          simpa using this
        intro A2 c2 w2 hown2 hgr2 hat2
        have hs2 := hgr2.size
        simp only [World.size_alloc, World.size_setCell] at hs2
        obtain ⟨m1, m2, m3, m4, m5, m6⟩ := HK.out
        have hbl2 : Below base w w2 := (hb2.alloc (by simp; omega) _).grown hgr2 (by simp; omega) (fun g hg => (m3.lt g hg).1)
        have r1 : Blk w2 R 214 _ := (m1.alloc _).grown hgr2 (fun e => own_ne_ty m3 m1 (by decide) e)
        have r2' : Own w2 base 4 (some ⟨g, 0, none⟩) c _ := (m2.alloc _).grown hgr2 (fun h hg e => own_own_ty m2 m3 (by decide) h hg e)
        have r4 : At w2 B (some ⟨b, o, none⟩) l := (m4.alloc (by simp; omega) _).grown_ (by simp; omega) hgr2 (fun h hg e => m5 HNL.out h hg e)
        have hA2 : ∀ h, rowOf (some (⟨b, o, none⟩ : Addr)) = some h → rowOf A2 ≠ some h := by
          intro h hg e
          rcases hat2 with h1 | h1
          · exact m5 HNL.out h hg (by rw [← h1]; exact e)
          · rw [h1] at e; injection e with e; injection hg with hg; simp at e hg; omega
        have r3'' := r1.cell 3 rfl
        have z3'' := r1.frozen 3
        have HF := Lib.hid (And.intro r1 (And.intro r2' (And.intro hown2 (And.intro r4 hA2)))); clear m1 m2 m3 m4 r1 r2' hown2 r4 hA2 r3 r3' z3 z3' hgr2
        go_wp2
        go_roundg (l.length - (k + 1))
        case measure => omega
        case rel =>
          obtain ⟨f1, f2, f3, f4, f5⟩ := HF.out
          refine ⟨k + 1, A2, c2, by omega, rfl, by go_num, ?_, hbl2.setCell hbR _, by simp [World.setCell]; omega⟩
          unfold Hid
          rw [HS.out]
          refine ⟨?_, f2.setCell _ _ (own_ne_ty f2 f1 (by decide)), f3.setCell _ _ (own_ne_ty f3 f1 (by decide)), f4.far_ (fun e => (HL0.out HNL.out _ e).1 rfl) _, fun _ => f5, by simp; omega⟩
          have := f1.set_ 3 (.slice A2 ((reachL (l.take k) (seen, todo)).2.length + 1) c2)
          simpa using this
    · obtain ⟨k1, k2, k3, k4, k5, k6⟩ := hkeep.out
      have hk2 : l.take k = l := List.take_of_length_le (by omega)
      rw [hk2] at k1 k2 k3
      have hlen : (reachL l (seen, todo)).1.length = seen.length := reachL_len _ _
      have HK := Lib.hid (And.intro k1 (And.intro k2 (And.intro k3 hlen))); clear k1 k2 k3 k4 k5 k6 hk2 hlen hkeep
      go_wp2
      go_end0
      exact ⟨rfl, ⟨S, T1, c, d1, by rw [HK.out.2.2.2]; exact HK.out.1, HK.out.2.1, HK.out.2.2.1, hbR⟩, hbl⟩

theorem Rch.lt {w : World} {base R : Nat} {hv rv : Value} {seen : List Bool} {todo : List Int} (h : Rch w base R hv rv seen todo) : base < w.heap.size := by
  obtain ⟨S, T, c, d, h1, -, -, h4⟩ := h
  have := h1.lt
  omega
/-- what is reached was there ahead of the reacher -/
theorem reach_old (R base B lc : Nat) (L : Option Addr) (hv rv : Value) (seen : List Bool) (todo l : List Int) (w : World) (h : Rch w base R hv rv seen todo) (hl : At w B L l) (hB : B ≤ base) (hin : RightL seen.length l) (hll : todo.length + l.length ≤ 1000000) (hsl : seen.length ≤ 9223372036854775807) :
    Calls Try.prog 168 #[.pointer (some ⟨R, 0, none⟩), .slice L l.length lc] w fun e w' => e = .returned (.tuple #[]) ∧ Rch w' base R hv rv (reachL l (seen, todo)).1 (reachL l (seen, todo)).2 ∧ Below base w w' := by
  have hlt := h.lt
  obtain ⟨S, T, c, d, h1, h2, h3, h4⟩ := h
  by_cases hl0 : l = []
  · subst hl0
    exact reach_core R base 0 c d lc L S T hv rv seen todo [] w h1 h2 h3 h4 (by omega) At.nil_ (by omega) (fun hn => absurd rfl hn) hin hll hsl
  · obtain ⟨x0, hx0⟩ : ∃ x, l[0]? = some x := ⟨_, List.getElem?_eq_getElem (List.length_pos_iff.2 hl0)⟩
    obtain ⟨b, o, cs, rfl, hb, -, -⟩ := hl 0 x0 hx0
    refine reach_core R base B c d lc _ S T hv rv seen todo l w h1 h2 h3 h4 (by omega) hl (by omega) (fun _ g hg => ?_) hin hll hsl
    injection hg with hg
    subst hg
    exact ⟨by simp; omega, fun e => by have := (h2.lt _ e).1; simp at this; omega, fun e => by have := (h3.lt _ e).1; simp at this; omega⟩

end Go.Proofs.Ytpkccpegdpodoaa

/- weak: all that is reached; numbers of those that are so; what is wrong with a graph. -/
namespace Go.Proofs.Ytpkccpegdpodoaa
open Go.RowKit

attribute [local go_sem ↓] Go.wp_at_zero Go.wp_at_succ

theorem At.get_ {α : Type} [Enc α] {w : World} {B : Nat} {A : Option Addr} {l : List α} {k : Nat} {x : α} (h : At w B A l) (hx : l[k]? = some x) : ∃ b o cs, A = some ⟨b, o, none⟩ ∧ b < B ∧ CellsAt w b (o + k * Enc.sz α) cs ∧ Enc.rd w B cs x := h k x hx

set_option maxHeartbeats 1600000 in
set_option maxRecDepth 100000 in
theorem reachAll_any (R base B hc rc _hn rn : Nat) (HA RA : Option Addr) (has : List (List Int)) (src : List Int) (pairs : List (Int × Int)) (seen : List Bool) (todo : List Int) (w : World) (h : Rch w base R (.slice HA has.length hc) (.slice RA rn rc) seen todo) (hh : At w B HA has) (hB : B ≤ base)
    (hright : Right has) (hinv : Inv has src pairs [] seen todo) (hlen : has.length ≤ 1000) (htl : todo.length ≤ 10000) (hhl : ∀ l ∈ has, l.length ≤ 1000) :
    Calls Try.prog 169 #[.pointer (some ⟨R, 0, none⟩)] w fun e w' => e = .returned (.tuple #[]) ∧ (∃ seen', Rch w' base R (.slice HA has.length hc) (.slice RA rn rc) seen' [] ∧ Inv has src pairs [] seen' [] ∧ Grows seen seen') ∧ Below base w w' := by
  have HH := Lib.hid hh; clear hh
  have HR := Lib.hid hright; clear hright
  have HHL := Lib.hid hhl; clear hhl
  have hun := unseen_le seen
  have hsl := hinv.len
  have HST := Lib.hid (And.intro h hinv); clear h hinv
  go_enter Try.func169, Try.ntmps169
  go_wp2_with fail
  go_loopg [] (2 * unseen seen + todo.length) (fun gk wr => ∃ (s1 : List Bool) (t1 : List Int), gk = 2 * unseen s1 + t1.length ∧ 2 * unseen s1 + t1.length ≤ 2 * unseen seen + todo.length ∧ Hid (Rch wr base R (.slice HA has.length hc) (.slice RA rn rc) s1 t1 ∧ Inv has src pairs [] s1 t1 ∧ Grows seen s1) ∧ Below base w wr)
  case atStart => exact ⟨seen, todo, rfl, Nat.le_refl _, ⟨HST.out.1, HST.out.2, Grows.refl _⟩, Below.refl _ _⟩
  case round =>
    obtain ⟨s1, t1, rfl, hle, hkeep, hbl⟩ := hrel
    obtain ⟨k1, k2, k3⟩ := hkeep.out
    obtain ⟨S, T, c, d, r1, r2, r3, r4⟩ := k1
    have hRlt := r1.lt
    have q3 := r1.cell 3 rfl
    have z3 := r1.frozen 3
    by_cases hlt : 0 < t1.length
    · obtain ⟨t0, x, rfl⟩ : ∃ t0 x, t1 = t0 ++ [x] := ⟨t1.dropLast, t1.getLast (List.ne_nil_of_length_pos hlt), (List.dropLast_concat_getLast _).symm⟩
      obtain ⟨n, rfl, hn⟩ := k2.todo_ x (by simp)
      have hnl : n < has.length := by rw [← k2.len]; exact (List.getElem?_eq_some_iff.1 hn).1
      obtain ⟨l, hl⟩ : ∃ l, has[n]? = some l := ⟨_, List.getElem?_eq_getElem hnl⟩
      have hstep := k2.step HR.out (l := l) (by simpa using hl)
      have htlen : (t0 ++ [(n : Int)]).length = t0.length + 1 := by simp
      rw [htlen] at q3 hle hstep
      obtain ⟨g, rfl, hg1, hg2⟩ := r3.some_ (by omega)
      have ct := r3.cell_int (i := t0.length) (b := (n : Int)) (by simp)
      have hcap := r3.le_cap.1
      rw [htlen] at hcap
      have r3' := r3.take_ t0.length (by omega)
      rw [List.take_left' rfl] at r3'
      have hll := HHL.out l (List.mem_of_getElem? hl)
      have hrl : RightL s1.length l := fun y hy => by obtain ⟨k, h1, h2⟩ := HR.out l (List.mem_of_getElem? hl) y hy; exact ⟨k, h1, by rw [k2.len]; exact h2⟩
      have hs1l := k2.len
      have HK := Lib.hid (And.intro r1 (And.intro r2 (And.intro r3' (And.intro hstep (And.intro k3 (And.intro hl (And.intro hrl hs1l)))))))
      have htl0 : t0.length + 1 ≤ d := hcap
      have w1 : (0 : Int) ≤ ((t0.length : Int) + 1) - 1 := by omega
      clear r1 r2 r3 r3' hstep k3 k2 hrl htlen hn hl hkeep
      go_wp2_with fail
      have hwr : IntKind.i64.wrap ((t0.length : Int) + 1 - 1) = (t0.length : Int) := by rw [IntWalk.i64_in _ (by omega)]; omega
      have w2 : (0 : Int) ≤ (t0.length : Int) := by omega
      have w3 : (t0.length : Int) < (t0.length : Int) + 1 := by omega
      have w4 : (t0.length : Int) ≤ (t0.length : Int) + 1 := by omega
      go_quiet (fail)
      go_wp2_with fail
      have w5 : t0.length ≤ d := by omega
      refine wp_world (fun W => Blk W R 214 #[.slice HA has.length hc, .slice RA rn rc, .slice S s1.length c, .slice (some ⟨g, 0, none⟩) (t0.length + 1) d] ∧ Own W base 4 S c s1 ∧ Own W base 3 (some ⟨g, 0, none⟩) d t0 ∧ Below base w W) ⟨by have := HK.out.1.drewN; simp only [List.length_append, List.length_singleton] at this; exact this _, HK.out.2.1.drewN _, HK.out.2.2.1.drewN _, below_drewN hbl _⟩ ?_
      rintro W ⟨m1, m2, m3, m4⟩
      have p3 := m1.cell 3 rfl
      have p0 := m1.cell 0 rfl
      obtain ⟨b, o, l', A', c', rfl, hb, hl2, hcell, hat', hlc, hmx⟩ := (HH.out.below (m4.mono hB)).slice_ hnl
      rw [HK.out.2.2.2.2.2.1] at hl2; injection hl2 with hl2; subst hl2
      have hbR : b < R := by omega
      have hbR2 : b ≠ R := by omega
      have pz := m1.frozen 3
      have n1 := own_ne_ty m2 m1 (by decide)
      have n2 := own_ne_ty m3 m1 (by decide)
      have HW := Lib.hid (And.intro (m1.set_ 3 (.slice (some ⟨g, 0, none⟩) t0.length d)) (And.intro (m2.setCell ⟨R, 3, none⟩ (.slice (some ⟨g, 0, none⟩) t0.length d) n1) (And.intro (m3.setCell ⟨R, 3, none⟩ (.slice (some ⟨g, 0, none⟩) t0.length d) n2) (m4.setCell (p := ⟨R, 3, none⟩) r4 (.slice (some ⟨g, 0, none⟩) t0.length d)))))
      have hnl0 : (0 : Int) ≤ (n : Int) := by omega
      have hnl1 : (n : Int) < (has.length : Int) := by omega
      have hcap2 : b ≠ R := by omega
      clear m1 m2 m3 m4 n1 n2 q3 z3
      have hwr2 : IntKind.i64.wrap (t0.length : Int) = (t0.length : Int) := IntWalk.i64_in _ (by clear hwr; omega)
      go_still_tail 14, (by kernel_rfl)
      clear hwr hwr2
      change wpList _ _ _ _ _ (World.drew _)
      go_wp2_with fail
      have hRch : Rch (W.setCell ⟨R, 3, none⟩ (.slice (some ⟨g, 0, none⟩) t0.length d)).drew base R (.slice (some ⟨b, o, none⟩) has.length hc) (.slice RA rn rc) s1 t0 := ⟨S, some ⟨g, 0, none⟩, c, d, by have := HW.out.1.drew; simpa using this, HW.out.2.1.drew, HW.out.2.2.1.drew, r4⟩
      have hat2 : At (W.setCell ⟨R, 3, none⟩ (.slice (some ⟨g, 0, none⟩) t0.length d)).drew B A' l := (hat'.setCell (p := ⟨R, 3, none⟩) (by simp; omega) _).drew
      have hll := HHL.out l (List.mem_of_getElem? HK.out.2.2.2.2.2.1)
      refine (reach_old R base B c' A' _ _ s1 t0 l _ hRch hat2 hB HK.out.2.2.2.2.2.2.1 (by omega) (by omega)).mono ?_
      rintro e w8 ⟨rfl, hr8, hb8⟩
      have hb8' : Below base W w8 := (((Below.refl _ _).setCell (p := ⟨R, 3, none⟩) r4 _).drew).trans hb8
      have HR8 := Lib.hid (And.intro hr8 (HW.out.2.2.2.trans (undrew hb8))); clear hr8 hRch hat2 hat' hb8 hb8'
      obtain ⟨s2, t2, hst⟩ : ∃ s2 t2, reachL l (s1, t0) = (s2, t2) := ⟨_, _, rfl⟩
      rw [hst] at HR8
      have HSS := HK.out.2.2.2.1
      rw [hst] at HSS
      have hms : 2 * unseen s2 + t2.length < 2 * unseen s1 + (t0.length + 1) := HSS.2.2
      have HS2 := Lib.hid HSS; clear HSS hst
      go_wp2_with fail
      go_roundg (2 * unseen s2 + t2.length)
      case measure => first | omega | (rw [List.length_append, List.length_singleton]; omega)
      case rel => exact ⟨s2, t2, rfl, by omega, ⟨HR8.out.1, HS2.out.1, HK.out.2.2.2.2.1.trans HS2.out.2.1⟩, HR8.out.2⟩
    · obtain rfl : t1 = [] := List.eq_nil_of_length_eq_zero (by omega)
      have HK := Lib.hid (And.intro r1 (And.intro r2 (And.intro r3 (And.intro k2 k3)))); clear r1 r2 r3 k2 k3 hkeep
      go_wp2_with fail
      go_end0
      obtain ⟨f1, f2, f3, f4, f5⟩ := HK.out
      exact ⟨rfl, ⟨s1, ⟨S, T, c, d, f1, f2, f3, r4⟩, f4, f5⟩, hbl⟩

end Go.Proofs.Ytpkccpegdpodoaa

/- weak.From: what is reached; numbers of those that are so. -/
namespace Go.Proofs.Ytpkccpegdpodoaa
open Go.RowKit

theorem madeBool (n : Nat) : (madeCells #[.bool false] n).toList = flat (List.replicate n false) := by
  apply List.ext_getElem?
  intro i
  have e : flat (List.replicate n false) = List.replicate n (Value.bool false) := by
    induction n with
    | zero => rfl
    | succ n ih => rw [List.replicate_succ, flat_cons, ih, List.replicate_succ]; rfl
  rw [e]
  simp only [madeCells, Array.toList_map, Array.toList_range, List.getElem?_map, List.getElem?_replicate]
  by_cases h : i < n
  · simp [h, Nat.mod_one]
  · simp [h]
theorem own_made (w : World) (base : Nat) (e : TypeId) (n : Nat) (hb : base ≤ w.heap.size) (hn : n ≤ maxLen) : Own (w.alloc (.cells (madeCells #[.bool false] n) e)) base e (some ⟨w.heap.size, 0, none⟩) n (List.replicate n false) := by
  refine ⟨flat_length _, .inr ⟨w.heap.size, n, madeCells #[.bool false] n, by rw [List.length_replicate], hb, heap_alloc_new w _, by simp, hn, by simp [size_madeCells, Flat.sz], ?_⟩⟩
  rw [← madeBool, List.take_of_length_le (by simp [size_madeCells, Flat.sz])]
theorem infoBool : (Try.prog.info? 4).map (fun i => (i.zero, i.size, i.bytes)) = some (some (.bool false), 1, 1) := by kernel_rfl

theorem replicate_len (n : Nat) : (List.replicate n false).length = n := by simp
theorem fromL_start {has : List (List Int)} {src : List Int} (pairs : List (Int × Int)) (hs : RightL has.length src) : Inv has src pairs [] (reachL src (List.replicate has.length false, [])).1 (reachL src (List.replicate has.length false, [])).2 ∧ (∀ k : Nat, (k : Int) ∈ src → (reachL src (List.replicate has.length false, [])).1[k]? = some true) ∧ (reachL src (List.replicate has.length false, [])).2.length ≤ 2 * has.length := by
  obtain ⟨h1, h2, h3, h4⟩ := Inv.reachL (st := (List.replicate has.length false, [])) (l := src) (Inv.start has src pairs) (fun x hx => by
    obtain ⟨k, rfl, hk⟩ := hs x hx
    exact ⟨k, rfl, hk, .root hx⟩)
  refine ⟨h1, h3, ?_⟩
  have := unseen_le (List.replicate has.length false)
  rw [replicate_len] at this
  simp only [List.length_nil] at h4
  omega

set_option maxHeartbeats 1600000 in
set_option maxRecDepth 100000 in
theorem wfrom_any (B hc rc lc rn : Nat) (HA RA LA : Option Addr) (has : List (List Int)) (l : List Int) (w : World) (hh : At w B HA has) (hl : At w B LA l) (hB : B ≤ w.heap.size)
    (hright : Right has) (hsrc : RightL has.length l) (hlen : has.length ≤ 100) (hll : l.length ≤ 1000) (hhl : ∀ l ∈ has, l.length ≤ 10) :
    Calls Try.prog 105 #[.agg #[.slice HA has.length hc, .slice RA rn rc], .slice LA l.length lc] w fun e w' => ∃ S c, e = .returned (.slice S has.length c) ∧ Own w' w.heap.size 4 S c (fromL has l []) ∧ Below w.heap.size w w' := by
  have hmk := Go.run_make_row' (P := Try.prog) 60 4 (.bool false) 1 Try.underlying60 infoBool rfl .i64 .i64 has.length (by omega) (by omega)
  have hst := fromL_start [] hsrc
  have HH := Lib.hid (And.intro hh (And.intro hl (And.intro hright (And.intro hsrc (And.intro hhl hst))))); clear hh hl hright hsrc hhl hst
  go_enter Try.func105, Try.ntmps105
  go_wp2_with fail
  refine wp_world (fun W => Blk W w.heap.size 49 #[.slice HA has.length hc, .slice RA rn rc] ∧ Below w.heap.size w W ∧ w.heap.size + 1 ≤ W.heap.size) ⟨Blk.new _ _ _, (Below.refl _ _).alloc (Nat.le_refl _) _, by simp⟩ ?_
  rintro W ⟨hG, hb0, hs0⟩
  have g0 := hG.cell 0 rfl
  have g1 := hG.cell 1 rfl
  have lt0 : w.heap.size < W.heap.size := by omega
  clear hG
  go_region_held3 (fun w' => w'.cell? ⟨w.heap.size, 0, none⟩ = some (.slice HA has.length hc) ∧ w'.cell? ⟨w.heap.size, 1, none⟩ = some (.slice RA rn rc)) (go_keep) (fail)
  go_wp2_with fail
  refine calls_world (fun V => Rch V W.heap.size (W.heap.size + 1) (.slice HA has.length hc) (.slice RA rn rc) (List.replicate has.length false) [] ∧ Below w.heap.size w V) ⟨?_, ?_⟩ ?_
  · have o1 := own_made W W.heap.size 4 has.length (Nat.le_refl _) (by simp only [maxLen]; omega)
    refine ⟨some ⟨W.heap.size, 0, none⟩, none, has.length, 0, ?_, (o1.alloc _).drew, Own.nil_, by omega⟩
    rw [List.length_replicate]
    exact (Blk.at_ (W.alloc _) _ _ (by simp)).drew
  · exact ((hb0.alloc (by omega) _).alloc (by simp; omega) _).drew
  clear g0 g1 hmk
  rintro V ⟨hR, hbV⟩
  have hsV := hR.lt
  refine (reach_old (W.heap.size + 1) W.heap.size B lc LA _ _ (List.replicate has.length false) [] l V hR (HH.out.2.1.below (hbV.mono hB)) (by omega) (by rw [List.length_replicate]; exact HH.out.2.2.2.1) (by simp; omega) (by simp; omega)).mono ?_
  rintro e w1 ⟨rfl, hR1, hb1⟩
  have hbl1 := hbV.trans (hb1.mono (by omega))
  obtain ⟨s1, t1, hst⟩ : ∃ s1 t1, reachL l (List.replicate has.length false, []) = (s1, t1) := ⟨_, _, rfl⟩
  have hH := HH.out.2.2.2.2.2
  rw [hst] at hR1 hH
  have htl : t1.length ≤ 2 * has.length := hH.2.2
  have H1 := Lib.hid (And.intro hR1 hH); clear hR1 hH hR hst
  go_wp2_with fail
  refine (reachAll_any (W.heap.size + 1) W.heap.size B hc rc has.length rn HA RA has l [] s1 t1 w1 H1.out.1 (HH.out.1.below (hbl1.mono hB)) (by omega) HH.out.2.2.1 H1.out.2.1 (by omega) (by omega) (fun l hl => by have := HH.out.2.2.2.2.1 l hl; omega)).mono ?_
  rintro e w2 ⟨rfl, ⟨s2, hR2, hI2, hG2⟩, hb2⟩
  have hbl2 := hbl1.trans (hb2.mono (by omega))
  obtain ⟨S, T, c, d, r1, r2, r3, r4⟩ := hR2
  have hfin := hI2.done (fun n hn => hG2 n (H1.out.2.2.1 n hn)) (fun k v _ hp => by simp at hp)
  have hsl := hI2.len
  rw [hsl] at r1
  rw [hfin] at r2
  have q2 := r1.cell 2 rfl
  have HO := Lib.hid r2
  clear r1 r2 r3 hI2 hG2 hfin
  go_wp2_with fail
  go_ret
  exact ⟨S, c, rfl, HO.out.base_le (by omega), hbl2⟩

set_option maxHeartbeats 800000 in
set_option maxRecDepth 100000 in
theorem wrising_any (A : Option Addr) (c B n : Nat) (l : List Bool) (w : World) (hn : l.length = n) (h : At w B A l) (hB : B ≤ w.heap.size) (hl : n ≤ 1000000) :
    Calls Try.prog 104 #[.slice A n c] w fun e w' => ∃ A' c', e = .returned (.slice A' (rising l).length c') ∧ Own w' w.heap.size 3 A' c' (rising l) ∧ Below w.heap.size w w' := by
  obtain ⟨i0, hi, hz0, hz1, hz2⟩ := info_parts infoInt
  have H := Lib.hid (And.intro h hn); clear h hn
  go_enter Try.func104, Try.ntmps104
  go_wp2
  go_loopg [3, 8] (n) (fun gk ov iv wr => ∃ (k : Nat) (A1 : Option Addr) (c1 : Nat), k ≤ n ∧ gk = n - k ∧ iv = .int .i64 k ∧ ov = .slice A1 (rising (l.take k)).length c1 ∧ Hid (Own wr w.heap.size 3 A1 c1 (rising (l.take k))) ∧ Below w.heap.size w wr)
  case atStart => exact ⟨0, none, 0, Nat.zero_le _, rfl, rfl, rfl, Own.nil_, Below.refl _ _⟩
  case round =>
    obtain ⟨k, A1, c1, hk, rfl, rfl, rfl, hkeep, hbl⟩ := hrel
    have hsz := hbl.size
    by_cases hlt : k < n
    · obtain ⟨b, o, x, rfl, hb, hx, h0⟩ := (H.out.1.below (hbl.mono hB)).bool_ (by have := H.out.2; omega : k < l.length)
      have hsn := rising_snoc l k x hx
      have hrl : (rising (l.take k)).length ≤ k := by have := rising_length (l.take k); rw [List.length_take] at this; omega
      cases x with
      | false =>
        rw [if_neg (by simp), List.append_nil] at hsn
        have HS := Lib.hid hsn; clear hsn hx
        go_wp2_with fail
        go_roundg (n - (k + 1))
        case measure => omega
        case rel => exact ⟨k + 1, A1, c1, by omega, rfl, by go_num, by rw [HS.out], by unfold Hid; rw [HS.out]; exact hkeep.out, hbl⟩
      | true =>
        rw [if_pos rfl] at hsn
        have HS := Lib.hid hsn; clear hsn hx
        go_wp2_with (at_builtin; go_must (refine wpList_app (α := Int) (m := 1) (B := wr.heap.size + 1) (r := [(k : Int)]) rfl (.tmp 14) (.tmp 16) _ rfl w.heap.size 3 i0 _ 8 Try.underlying47 hi hz0 hz1 hz2 rfl (by decide) int_one (by rfl) rfl (hkeep.out.alloc _) (by rfl) ?_ rfl (by omega) (by simp only [maxLen]; omega) (by simp; omega) ?_))
        · exact At.built wr _ _ [(k : Int)] rfl (by intro z hz; simp at hz; subst hz; exact (by unfold I64; omega : I64 (k : Int)))
        intro A2 c2 w2 hown2 hgr2 hat2
        have hbl2 : Below w.heap.size w w2 := (hbl.alloc hsz _).grown hgr2 (by simp; omega) (fun g hg => (hkeep.out.lt g hg).1)
        have HO2 := Lib.hid hown2; clear hown2
        go_wp2_with fail
        go_roundg (n - (k + 1))
        case measure => omega
        case rel => exact ⟨k + 1, A2, c2, by omega, rfl, by go_num, by rw [HS.out, List.length_append]; rfl, by unfold Hid; rw [HS.out]; exact HO2.out, hbl2⟩
    · have hk2 := hkeep.out
      rw [List.take_of_length_le (by have := H.out.2; omega)] at hk2
      have hk3 : l.take k = l := List.take_of_length_le (by have := H.out.2; omega)
      rw [hk3]
      have HK := Lib.hid hk2; clear hk2 hkeep hk3
      go_wp2_with fail
      go_ret
      exact ⟨A1, c1, rfl, HK.out, hbl⟩

set_option maxHeartbeats 800000 in
set_option maxRecDepth 100000 in
theorem rrising_any (A : Option Addr) (c B n : Nat) (l : List Bool) (w : World) (hn : l.length = n) (h : At w B A l) (hB : B ≤ w.heap.size) (hl : n ≤ 1000000) :
    Calls Try.prog 32 #[.slice A n c] w fun e w' => ∃ A' c', e = .returned (.slice A' (rising l).length c') ∧ Own w' w.heap.size 3 A' c' (rising l) ∧ Below w.heap.size w w' := by
  obtain ⟨i0, hi, hz0, hz1, hz2⟩ := info_parts infoInt
  have H := Lib.hid (And.intro h hn); clear h hn
  go_enter Try.func32, Try.ntmps32
  go_wp2
  go_loopg [3, 8] (n) (fun gk ov iv wr => ∃ (k : Nat) (A1 : Option Addr) (c1 : Nat), k ≤ n ∧ gk = n - k ∧ iv = .int .i64 k ∧ ov = .slice A1 (rising (l.take k)).length c1 ∧ Hid (Own wr w.heap.size 3 A1 c1 (rising (l.take k))) ∧ Below w.heap.size w wr)
  case atStart => exact ⟨0, none, 0, Nat.zero_le _, rfl, rfl, rfl, Own.nil_, Below.refl _ _⟩
  case round =>
    obtain ⟨k, A1, c1, hk, rfl, rfl, rfl, hkeep, hbl⟩ := hrel
    have hsz := hbl.size
    by_cases hlt : k < n
    · obtain ⟨b, o, x, rfl, hb, hx, h0⟩ := (H.out.1.below (hbl.mono hB)).bool_ (by have := H.out.2; omega : k < l.length)
      have hsn := rising_snoc l k x hx
      have hrl : (rising (l.take k)).length ≤ k := by have := rising_length (l.take k); rw [List.length_take] at this; omega
      cases x with
      | false =>
        rw [if_neg (by simp), List.append_nil] at hsn
        have HS := Lib.hid hsn; clear hsn hx
        go_wp2_with fail
        go_roundg (n - (k + 1))
        case measure => omega
        case rel => exact ⟨k + 1, A1, c1, by omega, rfl, by go_num, by rw [HS.out], by unfold Hid; rw [HS.out]; exact hkeep.out, hbl⟩
      | true =>
        rw [if_pos rfl] at hsn
        have HS := Lib.hid hsn; clear hsn hx
        go_wp2_with (at_builtin; go_must (refine wpList_app (α := Int) (m := 1) (B := wr.heap.size + 1) (r := [(k : Int)]) rfl (.tmp 14) (.tmp 16) _ rfl w.heap.size 3 i0 _ 8 Try.underlying47 hi hz0 hz1 hz2 rfl (by decide) int_one (by rfl) rfl (hkeep.out.alloc _) (by rfl) ?_ rfl (by omega) (by simp only [maxLen]; omega) (by simp; omega) ?_))
        · exact At.built wr _ _ [(k : Int)] rfl (by intro z hz; simp at hz; subst hz; exact (by unfold I64; omega : I64 (k : Int)))
        intro A2 c2 w2 hown2 hgr2 hat2
        have hbl2 : Below w.heap.size w w2 := (hbl.alloc hsz _).grown hgr2 (by simp; omega) (fun g hg => (hkeep.out.lt g hg).1)
        have HO2 := Lib.hid hown2; clear hown2
        go_wp2_with fail
        go_roundg (n - (k + 1))
        case measure => omega
        case rel => exact ⟨k + 1, A2, c2, by omega, rfl, by go_num, by rw [HS.out, List.length_append]; rfl, by unfold Hid; rw [HS.out]; exact HO2.out, hbl2⟩
    · have hk2 := hkeep.out
      rw [List.take_of_length_le (by have := H.out.2; omega)] at hk2
      have hk3 : l.take k = l := List.take_of_length_le (by have := H.out.2; omega)
      rw [hk3]
      have HK := Lib.hid hk2; clear hk2 hkeep hk3
      go_wp2_with fail
      go_ret
      exact ⟨A1, c1, rfl, HK.out, hbl⟩

end Go.Proofs.Ytpkccpegdpodoaa

/- The reference's From: what is reached, round by round. -/
namespace Go.Proofs.Ytpkccpegdpodoaa
open Go.RowKit

theorem ret_slice {A : Option Addr} {n m c : Nat} (h : n = m) : Ending.returned (.slice A n c) = .returned (.slice A m c) := by rw [h]
theorem egSee : ∀ args w, (callFunc 108 args).run Try.prog w = .ok (.enter 108 args) w := fun _ _ => by kernel_rfl

/-- what a round keeps in the middle of it -/
def MidSt (has : List (List Int)) (l : List Int) (pairs : List (Int × Int)) (_B : Nat) (s0 : List Bool) (S : World → List Bool → Bool → Prop) (i j q : Nat) (w : World) (s : List Bool) (m : Bool) : Prop :=
  S w s m ∧ RInv has l pairs s0 s m ∧ EClosed has s0 s i j ∧ PClosed pairs s0 s q
/-- the state of a round: the graph, what was seen, whether there is more -/
def SeeSt (w : World) (base G V M gS c : Nat) (hv rv : Value) (s : List Bool) (m : Bool) : Prop :=
  Blk w G 49 #[hv, rv] ∧ Blk w V 60 #[.slice (some ⟨gS, 0, none⟩) s.length c] ∧ Own w base 4 (some ⟨gS, 0, none⟩) c s ∧ Blk w M 4 #[.bool m] ∧ gS ≠ M ∧ base ≤ M ∧ base ≤ gS

theorem SeeSt.alloc {w : World} {base G V M gS c : Nat} {hv rv : Value} {s : List Bool} {m : Bool} (h : SeeSt w base G V M gS c hv rv s m) (o : Obj) : SeeSt (w.alloc o) base G V M gS c hv rv s m :=
  ⟨h.1.alloc _, h.2.1.alloc _, h.2.2.1.alloc _, h.2.2.2.1.alloc _, h.2.2.2.2⟩
theorem SeeSt.seen {w : World} {base G V M gS c : Nat} {hv rv : Value} {s : List Bool} {m m' : Bool} (h : SeeSt w base G V M gS c hv rv s m) {k : Nat} (hk : k < s.length) :
    SeeSt ((w.setCell ⟨M, 0, none⟩ (.bool m')).setCell ⟨gS, k, none⟩ (.bool true)) base G V M gS c hv rv (s.set k true) m' := by
  obtain ⟨h1, h2, h3, h4, h5, h6, h7⟩ := h
  have a1 : G ≠ M := fun e => by subst e; unfold Blk at h1 h4; rw [h1] at h4; injection h4 with h4; injection h4 with _ h4 _; exact absurd h4 (by decide)
  have a2 : V ≠ M := fun e => by subst e; unfold Blk at h2 h4; rw [h2] at h4; injection h4 with h4; injection h4 with _ h4 _; exact absurd h4 (by decide)
  have a3 : rowOf (some (⟨gS, 0, none⟩ : Addr)) ≠ some G := own_ne_ty h3 h1 (by decide)
  have a4 : rowOf (some (⟨gS, 0, none⟩ : Addr)) ≠ some V := own_ne_ty h3 h2 (by decide)
  have a3' : G ≠ gS := fun e => a3 (by rw [e]; rfl)
  have a4' : V ≠ gS := fun e => a4 (by rw [e]; rfl)
  refine ⟨(h1.far a1 _).far a3' _, ?_, (h3.setCell _ _ (fun e => h5 (by injection e))).set_bool true hk, ((h4.set_ 0 _).far (Ne.symm h5) _), h5, h6, h7⟩
  rw [List.length_set]
  exact (h2.far a2 _).far a4' _

theorem SeeSt.ne_ {w : World} {base G V M gS c : Nat} {hv rv : Value} {s : List Bool} {m : Bool} (h : SeeSt w base G V M gS c hv rv s m) : G ≠ M := by
  obtain ⟨h1, h2, h3, h4, h5, h6, h7⟩ := h
  exact fun e => by subst e; unfold Blk at h1 h4; rw [h1] at h4; injection h4 with h4; injection h4 with _ h4 _; exact absurd h4 (by decide)

theorem see_any (base G V M gS c k : Nat) (hv rv : Value) (s : List Bool) (m : Bool) (w : World) (h : SeeSt w base G V M gS c hv rv s m) (hk : k < s.length) :
    Calls Try.prog 108 #[.int .i64 k, .pointer (some ⟨M, 0, none⟩), .pointer (some ⟨V, 0, none⟩)] w fun e w' => e = .returned (.tuple #[]) ∧ SeeSt w' base G V M gS c hv rv (s.set k true) (m || !(s.getD k false)) ∧ Below base w w' ∧ w'.heap.size = w.heap.size := by
  obtain ⟨b, hb⟩ : ∃ b, s[k]? = some b := ⟨_, List.getElem?_eq_getElem hk⟩
  have hgd : s.getD k false = b := by rw [List.getD_eq_getElem?_getD, hb]; rfl
  rw [hgd]
  have c0 := h.2.2.2.1.cell 0 (v := .bool m) rfl
  have z0 := h.2.2.2.1.frozen 0
  have c1 := h.2.1.cell 0 (v := .slice (some ⟨gS, 0, none⟩) s.length c) rfl
  have c2 := h.2.2.1.cell_bool hb
  have z2 := h.2.2.1.frozen (g := gS) rfl k
  have hne := h.2.2.2.2.1
  have hVM : V ≠ M := fun e => by
    have h2 := h.2.1; have h4 := h.2.2.2.1; subst e; unfold Blk at h2 h4; rw [h2] at h4; injection h4 with h4; injection h4 with _ h4 _; exact absurd h4 (by decide)
  have k0 : (0 : Int) ≤ (k : Int) := by omega
  have k1 : (k : Int) < (s.length : Int) := by omega
  have HS := Lib.hid (fun m' => h.seen (m' := m') hk)
  have hb1 := h.2.2.2.2.2.1
  have hb2 := h.2.2.2.2.2.2
  clear hb hgd h
  cases m with
  | true =>
    go_enter Try.func108, Try.ntmps108
    go_wp2
    go_end0
    exact ⟨rfl, HS.out true, ((Below.refl _ _).setCell hb1 _).setCell hb2 _, by simp [World.setCell]⟩
  | false =>
    cases b with
    | true =>
      go_enter Try.func108, Try.ntmps108
      go_wp2
      go_end0
      exact ⟨rfl, HS.out false, ((Below.refl _ _).setCell hb1 _).setCell hb2 _, by simp [World.setCell]⟩
    | false =>
      go_enter Try.func108, Try.ntmps108
      go_wp2
      go_end0
      exact ⟨rfl, HS.out true, ((Below.refl _ _).setCell hb1 _).setCell hb2 _, by simp [World.setCell]⟩

theorem SeeSt.setm {w : World} {base G V M gS c : Nat} {hv rv : Value} {s : List Bool} {m : Bool} (h : SeeSt w base G V M gS c hv rv s m) (m' : Bool) : SeeSt (w.setCell ⟨M, 0, none⟩ (.bool m')) base G V M gS c hv rv s m' := by
  obtain ⟨h1, h2, h3, h4, h5, h6, h7⟩ := h
  have a1 : G ≠ M := fun e => by subst e; unfold Blk at h1 h4; rw [h1] at h4; injection h4 with h4; injection h4 with _ h4 _; exact absurd h4 (by decide)
  have a2 : V ≠ M := fun e => by subst e; unfold Blk at h2 h4; rw [h2] at h4; injection h4 with h4; injection h4 with _ h4 _; exact absurd h4 (by decide)
  exact ⟨h1.far a1 _, h2.far a2 _, h3.setCell _ _ (fun e => h5 (by injection e)), h4.set_ 0 _, h5, h6, h7⟩
theorem SeeSt.newm {w : World} {base G V M gS c : Nat} {hv rv : Value} {s : List Bool} {m : Bool} (h : SeeSt w base G V M gS c hv rv s m) (m' : Bool) : SeeSt (w.alloc (.cells #[.bool m'] 4)) base G V w.heap.size gS c hv rv s m' := by
  obtain ⟨h1, h2, h3, h4, h5, h6, h7⟩ := h
  have := (h3.lt gS rfl).2
  exact ⟨h1.alloc _, h2.alloc _, h3.alloc _, Blk.new _ _ _, by omega, by omega, h7⟩

set_option maxHeartbeats 3200000 in
set_option maxRecDepth 100000 in
theorem rfrom_any (B hc rc lc pc rn : Nat) (HA RA LA PA : Option Addr) (has : List (List Int)) (l : List Int) (pairs : List (Int × Int)) (w : World) (hh : At w B HA has) (hl : At w B LA l) (hp : At w B PA pairs) (hB : B ≤ w.heap.size)
    (hright : Right has) (hsrc : RightL has.length l) (hpr : RightP has.length pairs) (hlen : has.length ≤ 100) (hll : l.length ≤ 1000) (hpl : pairs.length ≤ 1000) (hhl : ∀ l ∈ has, l.length ≤ 10) :
    Calls Try.prog 33 #[.agg #[.slice HA has.length hc, .slice RA rn rc], .slice LA l.length lc, .slice PA pairs.length pc] w fun e w' => ∃ S c, e = .returned (.slice S has.length c) ∧ Own w' w.heap.size 4 S c (fromL has l pairs) ∧ Below w.heap.size w w' := by
  have hmk := Go.run_make_row' (P := Try.prog) 60 4 (.bool false) 1 Try.underlying60 infoBool rfl .i64 .i64 has.length (by omega) (by omega)
  have HH := Lib.hid (And.intro hh (And.intro hl (And.intro hp (And.intro hright (And.intro hsrc (And.intro hpr hhl)))))); clear hh hl hp hright hsrc hpr hhl
  go_enter Try.func33, Try.ntmps33
  go_wp2_with fail
  refine wp_world (fun W => Blk W w.heap.size 49 #[.slice HA has.length hc, .slice RA rn rc] ∧ Blk W (w.heap.size + 1 + 1) 60 #[.slice (some ⟨w.heap.size + 1, 0, none⟩) has.length has.length] ∧ Own W w.heap.size 4 (some ⟨w.heap.size + 1, 0, none⟩) has.length (List.replicate has.length false) ∧ Below w.heap.size w W ∧ w.heap.size + 3 ≤ W.heap.size) ⟨?_, ?_, ?_, ?_, ?_⟩ ?_
  · exact ((Blk.new _ _ _).alloc _).alloc _
  · exact Blk.at_ ((w.alloc _).alloc _) _ _ (by simp)
  · have := own_made (w.alloc (.cells #[.slice HA has.length hc, .slice RA rn rc] 49)) w.heap.size 4 has.length (by simp) (by simp only [maxLen]; omega)
    simp only [World.size_alloc] at this
    exact this.alloc _
  · exact (((Below.refl _ _).alloc (Nat.le_refl _) _).alloc (by simp) _).alloc (by simp; omega) _
  · simp
  rintro W ⟨hG, hV, hS, hb0, hs0⟩
  clear hmk
  go_loopg [24] (l.length) (fun gk iv wr => ∃ (k : Nat) (s : List Bool), k ≤ l.length ∧ gk = l.length - k ∧ iv = .int .i64 k ∧ s.length = has.length ∧ Hid ((∀ n : Nat, s[n]? = some true → (n : Int) ∈ l) ∧ (∀ n : Nat, (n : Int) ∈ l.take k → s[n]? = some true) ∧ Blk wr w.heap.size 49 #[.slice HA has.length hc, .slice RA rn rc] ∧ Blk wr (w.heap.size + 1 + 1) 60 #[.slice (some ⟨w.heap.size + 1, 0, none⟩) has.length has.length] ∧ Own wr w.heap.size 4 (some ⟨w.heap.size + 1, 0, none⟩) has.length s) ∧ Below w.heap.size w wr ∧ w.heap.size + 3 ≤ wr.heap.size)
  case atStart => exact ⟨0, List.replicate has.length false, Nat.zero_le _, rfl, rfl, by simp, ⟨fun n hn => by rw [List.getElem?_replicate] at hn; split at hn <;> simp at hn, fun n hn => by simp at hn, hG, hV, hS⟩, hb0, hs0⟩
  case round =>
    obtain ⟨k, s, hk, rfl, rfl, hsl, hkeep, hbl, hsz⟩ := hrel
    clear hG hV hS hb0 hs0
    obtain ⟨k1, k2, k3, k4, k5⟩ := hkeep.out
    by_cases hlt : k < l.length
    · obtain ⟨b, o, x, rfl, hb, hx, hok, h0⟩ := (HH.out.2.1.below (hbl.mono hB)).int_ hlt
      obtain ⟨n, rfl, hn⟩ := HH.out.2.2.2.2.1 x (List.mem_of_getElem? hx)
      obtain ⟨u, hu⟩ : ∃ v, s[n]? = some v := ⟨_, List.getElem?_eq_getElem (by omega)⟩
      have c0 := k4.cell 0 (v := .slice (some ⟨w.heap.size + 1, 0, none⟩) has.length has.length) rfl
      have c1 := k5.cell_bool hu
      have z1 := k5.frozen (g := w.heap.size + 1) rfl n
      have n0 : (0 : Int) ≤ (n : Int) := by omega
      have n1 : (n : Int) < (has.length : Int) := by omega
      have hns : n < s.length := by omega
      have HX := Lib.hid (And.intro hx (And.intro (k3.far (p := ⟨w.heap.size + 1, n, none⟩) (by simp) (.bool true)) (And.intro (k4.far (p := ⟨w.heap.size + 1, n, none⟩) (by simp) (.bool true)) (And.intro (k5.set_bool true hns) (And.intro k1 k2)))))
      clear hx hu hkeep k1 k2 k3 k4 k5
      go_wp2_with fail
      go_roundg (l.length - (k + 1))
      case measure => omega
      case rel =>
        obtain ⟨f1, f2, f3, f4, f5, f6⟩ := HX.out
        refine ⟨k + 1, s.set n true, by omega, rfl, by go_num, by simp [hsl], ⟨fun j hj => ?_, fun j hj => ?_, f2, f3, f4⟩, hbl.setCell (by simp) _, by simp [World.setCell]; omega⟩
        · rcases (set_true_get hns).1 hj with rfl | hj
          · exact List.mem_of_getElem? f1
          · exact f5 j hj
        · rw [List.take_add_one, f1] at hj
          rcases List.mem_append.1 hj with hj | hj
          · exact (set_true_get hns).2 (.inr (f6 j hj))
          · simp at hj
            exact (set_true_get hns).2 (.inl (by omega))
    · rw [List.take_of_length_le (by omega)] at k2
      have hge := (k5.lt (w.heap.size + 1) rfl).2
      have HS0 := Lib.hid (And.intro k1 (And.intro k2 (And.intro k3 (And.intro k4 k5)))); clear k1 k2 k3 k4 k5 hkeep
      go_wp2_with fail
      go_loopg [10] (unseen s + 1) (fun gk mv wr => ∃ (M : Nat) (s : List Bool) (m : Bool), mv = .pointer (some ⟨M, 0, none⟩) ∧ gk = (if m = true then unseen s + 1 else 0) ∧ s.length = has.length ∧ Hid (SeeSt wr w.heap.size w.heap.size (w.heap.size + 1 + 1) M (w.heap.size + 1) has.length (.slice HA has.length hc) (.slice RA rn rc) s m ∧ (∀ n, s[n]? = some true → RT has l pairs n) ∧ (∀ n : Nat, (n : Int) ∈ l → s[n]? = some true) ∧ (m = false → EClosed has s s has.length 0 ∧ PClosed pairs s s pairs.length)) ∧ Below w.heap.size w wr)
      case atStart =>
        obtain ⟨f1, f2, f3, f4, f5⟩ := HS0.out
        exact ⟨_, s, true, rfl, by simp, hsl, ⟨⟨f3.alloc _, by rw [hsl]; exact f4.alloc _, f5.alloc _, Blk.new _ _ _, by omega, by omega, by omega⟩, fun n hn => .root (f1 n hn), f2, fun h => by cases h⟩, hbl.alloc (by omega) _⟩
      case round =>
        obtain ⟨M, s, m, rfl, rfl, hsl, hkeep, hbl⟩ := hrel
        have hsz := hbl.size
        have m0 := hkeep.out.1.2.2.2.1.cell 0 (v := .bool m) rfl
        have mz := hkeep.out.1.2.2.2.1.frozen 0
        have hM := hkeep.out.1.2.2.2.2.2.1
        cases m with
        | false =>
          have hfin := RInv.fin hsl hkeep.out.2.1 hkeep.out.2.2.1 (hkeep.out.2.2.2 rfl).1 (hkeep.out.2.2.2 rfl).2
          have v0 := hkeep.out.1.2.1.cell 0 (v := .slice (some ⟨w.heap.size + 1, 0, none⟩) s.length has.length) rfl
          have HF := Lib.hid (And.intro hfin hkeep.out.1.2.2.1); clear hfin hkeep
          go_wp2_with fail
          go_ret
          exact ⟨some ⟨w.heap.size + 1, 0, none⟩, has.length, rfl, by rw [← HF.out.1]; exact HF.out.2, hbl⟩
        | true =>
          have hst := hkeep.out.1.setm false
          have g0 := hst.1.cell 0 (v := .slice HA has.length hc) rfl
          have HK := Lib.hid (And.intro hst hkeep.out.2); clear hst hkeep
          have hblm := hbl.setCell (p := ⟨M, 0, none⟩) hM (.bool false)
          have HS1 := Lib.hid HK.out.1.1; 
          have hGM := HK.out.1.ne_
          go_wp2_with fail
          clear g0 m0 mz
          go_loopg [37] (has.length) (fun gi iv wi => ∃ (i : Nat) (s' : List Bool) (m' : Bool), i ≤ has.length ∧ gi = has.length - i ∧ iv = .int .i64 i ∧ Hid (SeeSt wi w.heap.size w.heap.size (w.heap.size + 1 + 1) M (w.heap.size + 1) has.length (.slice HA has.length hc) (.slice RA rn rc) s' m' ∧ RInv has l pairs s s' m' ∧ EClosed has s s' i 0) ∧ Below w.heap.size w wi)
          case atStart => exact ⟨0, s, false, Nat.zero_le _, rfl, rfl, ⟨HK.out.1, ⟨hsl, hsl, HK.out.2.1, Grows.refl _, fun _ => rfl, by simp⟩, EClosed.zero _ _ _⟩, hblm⟩
          case round =>
            obtain ⟨i, s1, m1, hi, rfl, rfl, hkeep, hbl3⟩ := hrel
            have hsz3 := hbl3.size
            have hs1l := hkeep.out.2.1.len
            by_cases hlt3 : i < has.length
            · obtain ⟨b, o, li, A', c', rfl, hb, hli, hcell, hat', hlc, hmx⟩ := (HH.out.1.below (hbl3.mono hB)).slice_ hlt3
              have hll10 := HH.out.2.2.2.2.2.2 li (List.mem_of_getElem? hli)
              have HLI := Lib.hid (And.intro hli hat'); clear hli hat'
              obtain ⟨wo, rfl⟩ : ∃ wo : World, wo = wr := ⟨_, rfl⟩
              go_wp2_with fail
              go_loopg [44] (li.length) (fun gj jv wj => ∃ (j : Nat) (s' : List Bool) (m' : Bool), j ≤ li.length ∧ gj = li.length - j ∧ jv = .int .i64 j ∧ Hid (SeeSt wj w.heap.size w.heap.size (w.heap.size + 1 + 1) M (w.heap.size + 1) has.length (.slice (some ⟨b, o, none⟩) has.length hc) (.slice RA rn rc) s' m' ∧ RInv has l pairs s s' m' ∧ EClosed has s s' i j) ∧ Below w.heap.size w wj ∧ Below w.heap.size wo wj)
              case atStart => exact ⟨0, s1, m1, Nat.zero_le _, rfl, rfl, hkeep.out, hbl3, Below.refl _ _⟩
              case round =>
                obtain ⟨j, s2, m2, hj, rfl, rfl, hkeep, hbl4, hblo⟩ := hrel
                have hs2l := hkeep.out.2.1.len
                by_cases hlt4 : j < li.length
                · obtain ⟨b', o', x, rfl, hb', hx, hok, h0⟩ := (HLI.out.2.below (hblo.mono hB)).int_ hlt4
                  obtain ⟨n, rfl, hn⟩ := HH.out.2.2.2.1 li (List.mem_of_getElem? HLI.out.1) x (List.mem_of_getElem? hx)
                  obtain ⟨u, hu⟩ : ∃ v, s2[i]? = some v := ⟨_, List.getElem?_eq_getElem (by omega)⟩
                  have v0 := hkeep.out.1.2.1.cell 0 (v := .slice (some ⟨w.heap.size + 1, 0, none⟩) s2.length has.length) rfl
                  have v1 := hkeep.out.1.2.2.1.cell_bool hu
                  have i0 : (0 : Int) ≤ (i : Int) := by omega
                  have i1 : (i : Int) < (s2.length : Int) := by omega
                  cases u with
                  | false =>
                    have hec := hkeep.out.2.2.next HLI.out.1 hx (fun h => by have := hkeep.out.2.1.grows i h; rw [hu] at this; cases this)
                    have HE := Lib.hid (And.intro hkeep.out.1 (And.intro hkeep.out.2.1 hec)); clear hkeep hu hx hok hec
                    go_wp2_with fail
                    go_roundg (li.length - (j + 1))
                    case measure => omega
                    case rel => exact ⟨j + 1, s2, m2, by omega, rfl, by go_num, HE.out, hbl4, hblo⟩
                  | true =>
                    have hri := hkeep.out.2.1.see hn (.edge (hkeep.out.2.1.sound i hu) HLI.out.1 (List.mem_of_getElem? hx))
                    have hns : n < s2.length := by omega
                    have hec := (hkeep.out.2.2.grow (see_grows hns)).next HLI.out.1 hx (fun _ => see_get hns)
                    have hsee := see_any w.heap.size w.heap.size (w.heap.size + 1 + 1) M (w.heap.size + 1) has.length n _ _ s2 m2 wr hkeep.out.1 hns
                    have HSEE := Lib.hid (And.intro hsee (And.intro hri hec)); clear hkeep hu hx hok hec hri hsee
                    go_wp2_with fail
                    refine HSEE.out.1.mono ?_
                    rintro e w9 ⟨rfl, hse, hb9, hs9⟩
                    go_wp2_with fail
                    go_roundg (li.length - (j + 1))
                    case measure => omega
                    case rel => exact ⟨j + 1, _, _, by omega, rfl, by go_num, ⟨hse, HSEE.out.2⟩, hbl4.trans hb9, hblo.trans hb9⟩
                · have hec := hkeep.out.2.2.done HLI.out.1 (by omega)
                  have HE := Lib.hid (And.intro hkeep.out.1 (And.intro hkeep.out.2.1 hec)); clear hkeep hec
                  go_wp2_with fail
                  go_roundg (has.length - (i + 1))
                  case measure => omega
                  case rel => exact ⟨i + 1, s2, m2, by omega, rfl, by go_num, HE.out, hbl4⟩
            · obtain rfl : i = has.length := by omega
              go_wp2_with fail
              obtain ⟨wo, rfl⟩ : ∃ wo : World, wo = wr := ⟨_, rfl⟩
              go_loopg [59] (pairs.length) (fun gj jv wj => ∃ (j : Nat) (s' : List Bool) (m' : Bool), j ≤ pairs.length ∧ gj = pairs.length - j ∧ jv = .int .i64 j ∧ Hid (SeeSt wj w.heap.size w.heap.size (w.heap.size + 1 + 1) M (w.heap.size + 1) has.length (.slice HA has.length hc) (.slice RA rn rc) s' m' ∧ RInv has l pairs s s' m' ∧ EClosed has s s' has.length 0 ∧ PClosed pairs s s' j) ∧ Below w.heap.size w wj)
              case atStart => exact ⟨0, s1, m1, Nat.zero_le _, rfl, rfl, ⟨hkeep.out.1, hkeep.out.2.1, hkeep.out.2.2, PClosed.zero _ _ _⟩, hbl3⟩
              case round =>
                obtain ⟨j, s2, m2, hj, rfl, rfl, hkeep, hbl4⟩ := hrel
                have hs2l := hkeep.out.2.1.len
                have hsz4 := hbl4.size
                by_cases hlt4 : j < pairs.length
                · obtain ⟨b', o', x, y, rfl, hb', hx, -, -, g0, g1⟩ := (HH.out.2.2.1.below (hbl4.mono hB)).pair hlt4
                  obtain ⟨p, q, hpq, hp, hq⟩ := HH.out.2.2.2.2.2.1 _ (List.mem_of_getElem? hx)
                  injection hpq with e1 e2; subst e1 e2
                  obtain ⟨u, hu⟩ : ∃ v, s2[p]? = some v := ⟨_, List.getElem?_eq_getElem (by omega)⟩
                  have ltV := hkeep.out.1.2.1.lt
                  have ltS := (hkeep.out.1.2.2.1.lt (w.heap.size + 1) rfl).2
                  have v0 := hkeep.out.1.2.1.cell 0 (v := .slice (some ⟨w.heap.size + 1, 0, none⟩) s2.length has.length) rfl
                  have v1 := hkeep.out.1.2.2.1.cell_bool hu
                  have i0 : (0 : Int) ≤ (p : Int) := by omega
                  have i1 : (p : Int) < (s2.length : Int) := by omega
                  have hal := hkeep.out.1.alloc (.cells #[.int .i64 p, .int .i64 q] 63)
                  cases u with
                  | false =>
                    have hec := hkeep.out.2.2.2.next hx (fun h => by have := hkeep.out.2.1.grows p h; rw [hu] at this; cases this)
                    have HE := Lib.hid (And.intro hal (And.intro hkeep.out.2.1 (And.intro hkeep.out.2.2.1 hec))); clear hkeep hu hx hec hal
                    go_wp2_with fail
                    go_roundg (pairs.length - (j + 1))
                    case measure => omega
                    case rel => exact ⟨j + 1, s2, m2, by omega, rfl, by go_num, HE.out, hbl4.alloc (by omega) _⟩
                  | true =>
                    have hri := hkeep.out.2.1.see hq (.pair (hkeep.out.2.1.sound p hu) (List.mem_of_getElem? hx))
                    have hns : q < s2.length := by omega
                    have hec := (hkeep.out.2.2.2.grow (see_grows hns)).next hx (fun _ => see_get hns)
                    have hec2 := hkeep.out.2.2.1.grow (see_grows hns)
                    have hsee := see_any w.heap.size w.heap.size (w.heap.size + 1 + 1) M (w.heap.size + 1) has.length q _ _ s2 m2 _ hal hns
                    have HSEE := Lib.hid (And.intro hsee (And.intro hri (And.intro hec2 hec))); clear hkeep hu hx hec hec2 hri hsee hal
                    go_wp2_with fail
                    refine HSEE.out.1.mono ?_
                    rintro e w9 ⟨rfl, hse, hb9, hs9⟩
                    go_wp2_with fail
                    go_roundg (pairs.length - (j + 1))
                    case measure => omega
                    case rel => exact ⟨j + 1, _, _, by omega, rfl, by go_num, ⟨hse, HSEE.out.2⟩, (hbl4.alloc (by omega) _).trans hb9⟩
                · obtain rfl : j = pairs.length := by omega
                  have mm := hkeep.out.1.2.2.2.1.cell 0 (v := .bool m2) rfl
                  have hls := hkeep.out.2.1.less
                  have HE := Lib.hid hkeep.out; clear hkeep
                  go_wp2_with fail
                  go_roundg (if m2 = true then unseen s2 + 1 else 0)
                  case measure => cases m2 <;> simp at hls ⊢ <;> omega
                  case rel => exact ⟨_, s2, m2, rfl, rfl, hs2l, ⟨HE.out.1.newm m2, HE.out.2.1.sound, fun n hn => HE.out.2.1.grows n (HK.out.2.2.1 n hn), fun h => by
                    have e := HE.out.2.1.same h
                    obtain ⟨-, -, h3, h4⟩ := HE.out
                    rw [← e] at h3 h4
                    exact ⟨h3, h4⟩⟩, hbl4.alloc (by omega) _⟩

end Go.Proofs.Ytpkccpegdpodoaa

/- R.From once more, with longer lists. PRINTED from Weak4 (sed: 10 -> 1000). -/
namespace Go.Proofs.Ytpkccpegdpodoaa
open Go.RowKit

attribute [local go_sem ↓] Go.wp_at_zero Go.wp_at_succ

set_option maxHeartbeats 3200000 in
set_option maxRecDepth 100000 in
theorem sfrom_any (B hc rc lc pc rn : Nat) (HA RA LA PA : Option Addr) (has : List (List Int)) (l : List Int) (pairs : List (Int × Int)) (w : World) (hh : At w B HA has) (hl : At w B LA l) (hp : At w B PA pairs) (hB : B ≤ w.heap.size)
    (hright : Right has) (hsrc : RightL has.length l) (hpr : RightP has.length pairs) (hlen : has.length ≤ 100) (hll : l.length ≤ 1000) (hpl : pairs.length ≤ 1000) (hhl : ∀ l ∈ has, l.length ≤ 1000) :
    Calls Try.prog 33 #[.agg #[.slice HA has.length hc, .slice RA rn rc], .slice LA l.length lc, .slice PA pairs.length pc] w fun e w' => ∃ S c, e = .returned (.slice S has.length c) ∧ Own w' w.heap.size 4 S c (fromL has l pairs) ∧ Below w.heap.size w w' := by
  have hmk := Go.run_make_row' (P := Try.prog) 60 4 (.bool false) 1 Try.underlying60 infoBool rfl .i64 .i64 has.length (by omega) (by omega)
  have HH := Lib.hid (And.intro hh (And.intro hl (And.intro hp (And.intro hright (And.intro hsrc (And.intro hpr hhl)))))); clear hh hl hp hright hsrc hpr hhl
  go_enter Try.func33, Try.ntmps33
  go_wp2_with fail
  refine wp_world (fun W => Blk W w.heap.size 49 #[.slice HA has.length hc, .slice RA rn rc] ∧ Blk W (w.heap.size + 1 + 1) 60 #[.slice (some ⟨w.heap.size + 1, 0, none⟩) has.length has.length] ∧ Own W w.heap.size 4 (some ⟨w.heap.size + 1, 0, none⟩) has.length (List.replicate has.length false) ∧ Below w.heap.size w W ∧ w.heap.size + 3 ≤ W.heap.size) ⟨?_, ?_, ?_, ?_, ?_⟩ ?_
  · exact ((Blk.new _ _ _).alloc _).alloc _
  · exact Blk.at_ ((w.alloc _).alloc _) _ _ (by simp)
  · have := own_made (w.alloc (.cells #[.slice HA has.length hc, .slice RA rn rc] 49)) w.heap.size 4 has.length (by simp) (by simp only [maxLen]; omega)
    simp only [World.size_alloc] at this
    exact this.alloc _
  · exact (((Below.refl _ _).alloc (Nat.le_refl _) _).alloc (by simp) _).alloc (by simp; omega) _
  · simp
  rintro W ⟨hG, hV, hS, hb0, hs0⟩
  clear hmk
  go_loopg [24] (l.length) (fun gk iv wr => ∃ (k : Nat) (s : List Bool), k ≤ l.length ∧ gk = l.length - k ∧ iv = .int .i64 k ∧ s.length = has.length ∧ Hid ((∀ n : Nat, s[n]? = some true → (n : Int) ∈ l) ∧ (∀ n : Nat, (n : Int) ∈ l.take k → s[n]? = some true) ∧ Blk wr w.heap.size 49 #[.slice HA has.length hc, .slice RA rn rc] ∧ Blk wr (w.heap.size + 1 + 1) 60 #[.slice (some ⟨w.heap.size + 1, 0, none⟩) has.length has.length] ∧ Own wr w.heap.size 4 (some ⟨w.heap.size + 1, 0, none⟩) has.length s) ∧ Below w.heap.size w wr ∧ w.heap.size + 3 ≤ wr.heap.size)
  case atStart => exact ⟨0, List.replicate has.length false, Nat.zero_le _, rfl, rfl, by simp, ⟨fun n hn => by rw [List.getElem?_replicate] at hn; split at hn <;> simp at hn, fun n hn => by simp at hn, hG, hV, hS⟩, hb0, hs0⟩
  case round =>
    obtain ⟨k, s, hk, rfl, rfl, hsl, hkeep, hbl, hsz⟩ := hrel
    clear hG hV hS hb0 hs0
    obtain ⟨k1, k2, k3, k4, k5⟩ := hkeep.out
    by_cases hlt : k < l.length
    · obtain ⟨b, o, x, rfl, hb, hx, hok, h0⟩ := (HH.out.2.1.below (hbl.mono hB)).int_ hlt
      obtain ⟨n, rfl, hn⟩ := HH.out.2.2.2.2.1 x (List.mem_of_getElem? hx)
      obtain ⟨u, hu⟩ : ∃ v, s[n]? = some v := ⟨_, List.getElem?_eq_getElem (by omega)⟩
      have c0 := k4.cell 0 (v := .slice (some ⟨w.heap.size + 1, 0, none⟩) has.length has.length) rfl
      have c1 := k5.cell_bool hu
      have z1 := k5.frozen (g := w.heap.size + 1) rfl n
      have n0 : (0 : Int) ≤ (n : Int) := by omega
      have n1 : (n : Int) < (has.length : Int) := by omega
      have hns : n < s.length := by omega
      have HX := Lib.hid (And.intro hx (And.intro (k3.far (p := ⟨w.heap.size + 1, n, none⟩) (by simp) (.bool true)) (And.intro (k4.far (p := ⟨w.heap.size + 1, n, none⟩) (by simp) (.bool true)) (And.intro (k5.set_bool true hns) (And.intro k1 k2)))))
      clear hx hu hkeep k1 k2 k3 k4 k5
      go_wp2_with fail
      go_roundg (l.length - (k + 1))
      case measure => omega
      case rel =>
        obtain ⟨f1, f2, f3, f4, f5, f6⟩ := HX.out
        refine ⟨k + 1, s.set n true, by omega, rfl, by go_num, by simp [hsl], ⟨fun j hj => ?_, fun j hj => ?_, f2, f3, f4⟩, hbl.setCell (by simp) _, by simp [World.setCell]; omega⟩
        · rcases (set_true_get hns).1 hj with rfl | hj
          · exact List.mem_of_getElem? f1
          · exact f5 j hj
        · rw [List.take_add_one, f1] at hj
          rcases List.mem_append.1 hj with hj | hj
          · exact (set_true_get hns).2 (.inr (f6 j hj))
          · simp at hj
            exact (set_true_get hns).2 (.inl (by omega))
    · rw [List.take_of_length_le (by omega)] at k2
      have hge := (k5.lt (w.heap.size + 1) rfl).2
      have HS0 := Lib.hid (And.intro k1 (And.intro k2 (And.intro k3 (And.intro k4 k5)))); clear k1 k2 k3 k4 k5 hkeep
      go_wp2_with fail
      go_loopg [10] (unseen s + 1) (fun gk mv wr => ∃ (M : Nat) (s : List Bool) (m : Bool), mv = .pointer (some ⟨M, 0, none⟩) ∧ gk = (if m = true then unseen s + 1 else 0) ∧ s.length = has.length ∧ Hid (SeeSt wr w.heap.size w.heap.size (w.heap.size + 1 + 1) M (w.heap.size + 1) has.length (.slice HA has.length hc) (.slice RA rn rc) s m ∧ (∀ n, s[n]? = some true → RT has l pairs n) ∧ (∀ n : Nat, (n : Int) ∈ l → s[n]? = some true) ∧ (m = false → EClosed has s s has.length 0 ∧ PClosed pairs s s pairs.length)) ∧ Below w.heap.size w wr)
      case atStart =>
        obtain ⟨f1, f2, f3, f4, f5⟩ := HS0.out
        exact ⟨_, s, true, rfl, by simp, hsl, ⟨⟨f3.alloc _, by rw [hsl]; exact f4.alloc _, f5.alloc _, Blk.new _ _ _, by omega, by omega, by omega⟩, fun n hn => .root (f1 n hn), f2, fun h => by cases h⟩, hbl.alloc (by omega) _⟩
      case round =>
        obtain ⟨M, s, m, rfl, rfl, hsl, hkeep, hbl⟩ := hrel
        have hsz := hbl.size
        have m0 := hkeep.out.1.2.2.2.1.cell 0 (v := .bool m) rfl
        have mz := hkeep.out.1.2.2.2.1.frozen 0
        have hM := hkeep.out.1.2.2.2.2.2.1
        cases m with
        | false =>
          have hfin := RInv.fin hsl hkeep.out.2.1 hkeep.out.2.2.1 (hkeep.out.2.2.2 rfl).1 (hkeep.out.2.2.2 rfl).2
          have v0 := hkeep.out.1.2.1.cell 0 (v := .slice (some ⟨w.heap.size + 1, 0, none⟩) s.length has.length) rfl
          have HF := Lib.hid (And.intro hfin hkeep.out.1.2.2.1); clear hfin hkeep
          go_wp2_with fail
          go_ret
          exact ⟨some ⟨w.heap.size + 1, 0, none⟩, has.length, rfl, by rw [← HF.out.1]; exact HF.out.2, hbl⟩
        | true =>
          have hst := hkeep.out.1.setm false
          have g0 := hst.1.cell 0 (v := .slice HA has.length hc) rfl
          have HK := Lib.hid (And.intro hst hkeep.out.2); clear hst hkeep
          have hblm := hbl.setCell (p := ⟨M, 0, none⟩) hM (.bool false)
          have HS1 := Lib.hid HK.out.1.1; 
          have hGM := HK.out.1.ne_
          go_wp2_with fail
          clear g0 m0 mz
          go_loopg [37] (has.length) (fun gi iv wi => ∃ (i : Nat) (s' : List Bool) (m' : Bool), i ≤ has.length ∧ gi = has.length - i ∧ iv = .int .i64 i ∧ Hid (SeeSt wi w.heap.size w.heap.size (w.heap.size + 1 + 1) M (w.heap.size + 1) has.length (.slice HA has.length hc) (.slice RA rn rc) s' m' ∧ RInv has l pairs s s' m' ∧ EClosed has s s' i 0) ∧ Below w.heap.size w wi)
          case atStart => exact ⟨0, s, false, Nat.zero_le _, rfl, rfl, ⟨HK.out.1, ⟨hsl, hsl, HK.out.2.1, Grows.refl _, fun _ => rfl, by simp⟩, EClosed.zero _ _ _⟩, hblm⟩
          case round =>
            obtain ⟨i, s1, m1, hi, rfl, rfl, hkeep, hbl3⟩ := hrel
            have hsz3 := hbl3.size
            have hs1l := hkeep.out.2.1.len
            by_cases hlt3 : i < has.length
            · obtain ⟨b, o, li, A', c', rfl, hb, hli, hcell, hat', hlc, hmx⟩ := (HH.out.1.below (hbl3.mono hB)).slice_ hlt3
              have hll10 := HH.out.2.2.2.2.2.2 li (List.mem_of_getElem? hli)
              have HLI := Lib.hid (And.intro hli hat'); clear hli hat'
              obtain ⟨wo, rfl⟩ : ∃ wo : World, wo = wr := ⟨_, rfl⟩
              go_wp2_with fail
              go_loopg [44] (li.length) (fun gj jv wj => ∃ (j : Nat) (s' : List Bool) (m' : Bool), j ≤ li.length ∧ gj = li.length - j ∧ jv = .int .i64 j ∧ Hid (SeeSt wj w.heap.size w.heap.size (w.heap.size + 1 + 1) M (w.heap.size + 1) has.length (.slice (some ⟨b, o, none⟩) has.length hc) (.slice RA rn rc) s' m' ∧ RInv has l pairs s s' m' ∧ EClosed has s s' i j) ∧ Below w.heap.size w wj ∧ Below w.heap.size wo wj)
              case atStart => exact ⟨0, s1, m1, Nat.zero_le _, rfl, rfl, hkeep.out, hbl3, Below.refl _ _⟩
              case round =>
                obtain ⟨j, s2, m2, hj, rfl, rfl, hkeep, hbl4, hblo⟩ := hrel
                have hs2l := hkeep.out.2.1.len
                by_cases hlt4 : j < li.length
                · obtain ⟨b', o', x, rfl, hb', hx, hok, h0⟩ := (HLI.out.2.below (hblo.mono hB)).int_ hlt4
                  obtain ⟨n, rfl, hn⟩ := HH.out.2.2.2.1 li (List.mem_of_getElem? HLI.out.1) x (List.mem_of_getElem? hx)
                  obtain ⟨u, hu⟩ : ∃ v, s2[i]? = some v := ⟨_, List.getElem?_eq_getElem (by omega)⟩
                  have v0 := hkeep.out.1.2.1.cell 0 (v := .slice (some ⟨w.heap.size + 1, 0, none⟩) s2.length has.length) rfl
                  have v1 := hkeep.out.1.2.2.1.cell_bool hu
                  have i0 : (0 : Int) ≤ (i : Int) := by omega
                  have i1 : (i : Int) < (s2.length : Int) := by omega
                  cases u with
                  | false =>
                    have hec := hkeep.out.2.2.next HLI.out.1 hx (fun h => by have := hkeep.out.2.1.grows i h; rw [hu] at this; cases this)
                    have HE := Lib.hid (And.intro hkeep.out.1 (And.intro hkeep.out.2.1 hec)); clear hkeep hu hx hok hec
                    go_wp2_with fail
                    go_roundg (li.length - (j + 1))
                    case measure => omega
                    case rel => exact ⟨j + 1, s2, m2, by omega, rfl, by go_num, HE.out, hbl4, hblo⟩
                  | true =>
                    have hri := hkeep.out.2.1.see hn (.edge (hkeep.out.2.1.sound i hu) HLI.out.1 (List.mem_of_getElem? hx))
                    have hns : n < s2.length := by omega
                    have hec := (hkeep.out.2.2.grow (see_grows hns)).next HLI.out.1 hx (fun _ => see_get hns)
                    have hsee := see_any w.heap.size w.heap.size (w.heap.size + 1 + 1) M (w.heap.size + 1) has.length n _ _ s2 m2 wr hkeep.out.1 hns
                    have HSEE := Lib.hid (And.intro hsee (And.intro hri hec)); clear hkeep hu hx hok hec hri hsee
                    go_wp2_with fail
                    refine HSEE.out.1.mono ?_
                    rintro e w9 ⟨rfl, hse, hb9, hs9⟩
                    go_wp2_with fail
                    go_roundg (li.length - (j + 1))
                    case measure => omega
                    case rel => exact ⟨j + 1, _, _, by omega, rfl, by go_num, ⟨hse, HSEE.out.2⟩, hbl4.trans hb9, hblo.trans hb9⟩
                · have hec := hkeep.out.2.2.done HLI.out.1 (by omega)
                  have HE := Lib.hid (And.intro hkeep.out.1 (And.intro hkeep.out.2.1 hec)); clear hkeep hec
                  go_wp2_with fail
                  go_roundg (has.length - (i + 1))
                  case measure => omega
                  case rel => exact ⟨i + 1, s2, m2, by omega, rfl, by go_num, HE.out, hbl4⟩
            · obtain rfl : i = has.length := by omega
              go_wp2_with fail
              obtain ⟨wo, rfl⟩ : ∃ wo : World, wo = wr := ⟨_, rfl⟩
              go_loopg [59] (pairs.length) (fun gj jv wj => ∃ (j : Nat) (s' : List Bool) (m' : Bool), j ≤ pairs.length ∧ gj = pairs.length - j ∧ jv = .int .i64 j ∧ Hid (SeeSt wj w.heap.size w.heap.size (w.heap.size + 1 + 1) M (w.heap.size + 1) has.length (.slice HA has.length hc) (.slice RA rn rc) s' m' ∧ RInv has l pairs s s' m' ∧ EClosed has s s' has.length 0 ∧ PClosed pairs s s' j) ∧ Below w.heap.size w wj)
              case atStart => exact ⟨0, s1, m1, Nat.zero_le _, rfl, rfl, ⟨hkeep.out.1, hkeep.out.2.1, hkeep.out.2.2, PClosed.zero _ _ _⟩, hbl3⟩
              case round =>
                obtain ⟨j, s2, m2, hj, rfl, rfl, hkeep, hbl4⟩ := hrel
                have hs2l := hkeep.out.2.1.len
                have hsz4 := hbl4.size
                by_cases hlt4 : j < pairs.length
                · obtain ⟨b', o', x, y, rfl, hb', hx, -, -, g0, g1⟩ := (HH.out.2.2.1.below (hbl4.mono hB)).pair hlt4
                  obtain ⟨p, q, hpq, hp, hq⟩ := HH.out.2.2.2.2.2.1 _ (List.mem_of_getElem? hx)
                  injection hpq with e1 e2; subst e1 e2
                  obtain ⟨u, hu⟩ : ∃ v, s2[p]? = some v := ⟨_, List.getElem?_eq_getElem (by omega)⟩
                  have ltV := hkeep.out.1.2.1.lt
                  have ltS := (hkeep.out.1.2.2.1.lt (w.heap.size + 1) rfl).2
                  have v0 := hkeep.out.1.2.1.cell 0 (v := .slice (some ⟨w.heap.size + 1, 0, none⟩) s2.length has.length) rfl
                  have v1 := hkeep.out.1.2.2.1.cell_bool hu
                  have i0 : (0 : Int) ≤ (p : Int) := by omega
                  have i1 : (p : Int) < (s2.length : Int) := by omega
                  have hal := hkeep.out.1.alloc (.cells #[.int .i64 p, .int .i64 q] 63)
                  cases u with
                  | false =>
                    have hec := hkeep.out.2.2.2.next hx (fun h => by have := hkeep.out.2.1.grows p h; rw [hu] at this; cases this)
                    have HE := Lib.hid (And.intro hal (And.intro hkeep.out.2.1 (And.intro hkeep.out.2.2.1 hec))); clear hkeep hu hx hec hal
                    go_wp2_with fail
                    go_roundg (pairs.length - (j + 1))
                    case measure => omega
                    case rel => exact ⟨j + 1, s2, m2, by omega, rfl, by go_num, HE.out, hbl4.alloc (by omega) _⟩
                  | true =>
                    have hri := hkeep.out.2.1.see hq (.pair (hkeep.out.2.1.sound p hu) (List.mem_of_getElem? hx))
                    have hns : q < s2.length := by omega
                    have hec := (hkeep.out.2.2.2.grow (see_grows hns)).next hx (fun _ => see_get hns)
                    have hec2 := hkeep.out.2.2.1.grow (see_grows hns)
                    have hsee := see_any w.heap.size w.heap.size (w.heap.size + 1 + 1) M (w.heap.size + 1) has.length q _ _ s2 m2 _ hal hns
                    have HSEE := Lib.hid (And.intro hsee (And.intro hri (And.intro hec2 hec))); clear hkeep hu hx hec hec2 hri hsee hal
                    go_wp2_with fail
                    refine HSEE.out.1.mono ?_
                    rintro e w9 ⟨rfl, hse, hb9, hs9⟩
                    go_wp2_with fail
                    go_roundg (pairs.length - (j + 1))
                    case measure => omega
                    case rel => exact ⟨j + 1, _, _, by omega, rfl, by go_num, ⟨hse, HSEE.out.2⟩, (hbl4.alloc (by omega) _).trans hb9⟩
                · obtain rfl : j = pairs.length := by omega
                  have mm := hkeep.out.1.2.2.2.1.cell 0 (v := .bool m2) rfl
                  have hls := hkeep.out.2.1.less
                  have HE := Lib.hid hkeep.out; clear hkeep
                  go_wp2_with fail
                  go_roundg (if m2 = true then unseen s2 + 1 else 0)
                  case measure => cases m2 <;> simp at hls ⊢ <;> omega
                  case rel => exact ⟨_, s2, m2, rfl, rfl, hs2l, ⟨HE.out.1.newm m2, HE.out.2.1.sound, fun n hn => HE.out.2.1.grows n (HK.out.2.2.1 n hn), fun h => by
                    have e := HE.out.2.1.same h
                    obtain ⟨-, -, h3, h4⟩ := HE.out
                    rw [← e] at h3 h4
                    exact ⟨h3, h4⟩⟩, hbl4.alloc (by omega) _⟩

end Go.Proofs.Ytpkccpegdpodoaa

/- Graphs that a shelf builds: what a row of rows holds. -/
namespace Go.Proofs.Ytpkccpegdpodoaa
open Go.RowKit

namespace Sto
/-- a list of ints as it lies -/
structure SlR where
  A : Option Addr
  c : Nat
  l : List Int
instance : Flat SlR where
  cells x := [.slice x.A x.l.length x.c]
  sz := 1
  len _ := rfl
  ok _ := True
theorem slr_one : ∀ x : SlR, ∀ u ∈ Flat.cells x, u.oneCell' = true := by
  intro x u hu; simp [Flat.cells] at hu; subst hu; rfl

/-- a graph that is being built: rows of its own, and its roots -/
structure GrS (w : World) (base : Nat) (HA : Option Addr) (hc : Nat) (RA : Option Addr) (rc : Nat) (hs : List SlR) (rs : List Int) : Prop where
  row : Own w base 47 HA hc hs
  sub : ∀ (i : Nat) (x : SlR), hs[i]? = some x → Own w base 3 x.A x.c x.l ∧ ∀ k ∈ x.l, I64 k
  roots : Own w base 3 RA rc rs
  apart : ∀ (i : Nat) (x : SlR), hs[i]? = some x → ∀ g, rowOf x.A = some g → rowOf RA ≠ some g

section
variable {w w' : World} {base : Nat} {HA HA' RA RA' : Option Addr} {hc hc' rc rc' : Nat} {hs : List SlR} {rs : List Int}
theorem GrS.start (w : World) (base : Nat) : GrS w base none 0 none 0 [] [] := ⟨Own.nil_, fun i x h => by simp at h, Own.nil_, fun i x h => by simp at h⟩
theorem GrS.fresh (h : GrS w base HA hc RA rc hs rs) (hb : Below w.heap.size w w') : GrS w' base HA hc RA rc hs rs :=
  ⟨h.row.fresh hb, fun i x hx => ⟨(h.sub i x hx).1.fresh hb, (h.sub i x hx).2⟩, h.roots.fresh hb, h.apart⟩
theorem GrS.alloc (h : GrS w base HA hc RA rc hs rs) (o : Obj) : GrS (w.alloc o) base HA hc RA rc hs rs := h.fresh ((Below.refl _ _).alloc (Nat.le_refl _) _)
theorem GrS.drew (h : GrS w base HA hc RA rc hs rs) : GrS w.drew base HA hc RA rc hs rs := ⟨h.row.drew, fun i x hx => ⟨(h.sub i x hx).1.drew, (h.sub i x hx).2⟩, h.roots.drew, h.apart⟩
/-- a store into a block of another type -/
theorem GrS.blk (h : GrS w base HA hc RA rc hs rs) {g : Nat} {t : TypeId} {cs : Array Value} (hg : Blk w g t cs) (h1 : 47 ≠ t) (h2 : 3 ≠ t) (i : Nat) (u : Value) : GrS (w.setCell ⟨g, i, none⟩ u) base HA hc RA rc hs rs :=
  ⟨h.row.setCell _ _ (own_ne_ty h.row hg h1), fun j x hx => ⟨(h.sub j x hx).1.setCell _ _ (own_ne_ty (h.sub j x hx).1 hg h2), (h.sub j x hx).2⟩, h.roots.setCell _ _ (own_ne_ty h.roots hg h2), h.apart⟩
theorem push_case {α : Type} {l : List α} {y : α} {i : Nat} {x : α} (h : (l ++ [y])[i]? = some x) : l[i]? = some x ∨ i = l.length ∧ x = y := by
  have hlt := (List.getElem?_eq_some_iff.1 h).1
  rw [List.length_append, List.length_singleton] at hlt
  by_cases e : i < l.length
  · rw [List.getElem?_append_left e] at h; exact .inl h
  · obtain rfl : i = l.length := by omega
    simp at h; exact .inr ⟨rfl, h.symm⟩
/-- one more row -/
theorem GrS.push {y : SlR} (h : GrS w base HA hc RA rc hs rs) (hrow : Own w' base 47 HA' hc' (hs ++ [y])) (hg : w.grownBy w' (rowOf HA)) (hy : Own w base 3 y.A y.c y.l) (hyk : ∀ k ∈ y.l, I64 k) (hya : ∀ g, rowOf y.A = some g → rowOf RA ≠ some g) :
    GrS w' base HA' hc' RA rc (hs ++ [y]) rs := by
  have grow : ∀ {z : SlR}, Own w base 3 z.A z.c z.l → Own w' base 3 z.A z.c z.l := fun {z} hz => hz.grown hg (fun g hg' e => own_own_ty h.row hz (by decide) g e hg')
  refine ⟨hrow, fun i x hx => ?_, h.roots.grown hg (fun g hg' e => own_own_ty h.row h.roots (by decide) g e hg'), fun i x hx => ?_⟩
  · rcases push_case hx with hx | ⟨-, rfl⟩
    · exact ⟨grow (h.sub i x hx).1, (h.sub i x hx).2⟩
    · exact ⟨grow hy, hyk⟩
  · rcases push_case hx with hx | ⟨-, rfl⟩
    · exact h.apart i x hx
    · exact hya
/-- one more root -/
theorem GrS.root {k : Int} (h : GrS w base HA hc RA rc hs rs) (hrow : Own w' base 3 RA' rc' (rs ++ [k])) (hg : w.grownBy w' (rowOf RA)) (hat : rowOf RA' = rowOf RA ∨ rowOf RA' = some w.heap.size) : GrS w' base HA hc RA' rc' hs (rs ++ [k]) := by
  refine ⟨h.row.grown hg (fun g hg' e => own_own_ty h.row h.roots (by decide) g hg' e), fun i x hx => ⟨(h.sub i x hx).1.grown hg (fun g hg' e => h.apart i x hx g hg' e), (h.sub i x hx).2⟩, hrow, fun i x hx g hg' => ?_⟩
  rcases hat with e | e
  · rw [e]; exact h.apart i x hx g hg'
  · rw [e]; intro e2; injection e2 with e2; have := ((h.sub i x hx).1.lt g hg').2; omega
/-- the rows read as lists -/
theorem GrS.at_ (h : GrS w base HA hc RA rc hs rs) : At w w.heap.size HA (hs.map SlR.l) := by
  intro i x hx
  rw [List.getElem?_map] at hx
  cases hs' : hs[i]? with
  | none => rw [hs'] at hx; cases hx
  | some y =>
    rw [hs'] at hx
    injection hx with hx
    subst hx
    obtain ⟨b, o, cs, hA, hb, hc, hr⟩ := h.row.at_ (fun _ _ => trivial) i y hs'
    have hy := h.sub i y hs'
    have hcap := hy.1.le_cap
    refine ⟨b, o, cs, hA, hb, hc, y.A, y.c, hr.1, hcap.1, hcap.2, fun e => ?_, hy.1.at_ (fun k hk => hy.2 k hk)⟩
    rcases hy.1.2 with ⟨h1, -⟩ | ⟨g', cap, cur, hv, -⟩
    · injection h1
    · rw [e] at hv; injection hv with hv; cases hv
end

theorem infoIntsG : (Try.prog.info? 47).map (fun i => (i.zero, i.size, i.bytes)) = some (some (.slice none 0 0), 1, 24) := by kernel_rfl
theorem results_cell1 {P : Program} {fn : Func} {p : Tmp} {ty : TypeId} (h : fn.results = #[.cell p ty]) (tmps : Array Value) (w : World) (g : Nat) (t : TypeId) (cs : Array Value) (d : TypeDesc)
    (hp : tmps.getD p undef = .pointer (some ⟨g, 0, none⟩)) (hg : Blk w g t cs)
    (hu : P.underlying ty = some d) (hd : (match d with | .struct _ | .array _ _ => true | _ => false) = true) (hi : (P.info? ty).map (·.size) = some cs.size) :
    (results fn tmps).run P w = .ok (.agg cs) w := by
  have hp' : tmps[p]?.getD undef = .pointer (some ⟨g, 0, none⟩) := by simpa using hp
  simp [results, h, hp', asAddr, run_loadVar_row w g t ty cs (0, 0) d hg hu hd hi]

theorem infoVal : (Try.prog.info? 23).map (fun i => (i.zero, i.size, i.bytes)) = some (some (.agg #[.int .i64 0, .int .i64 0]), 2, 16) := by kernel_rfl
theorem infoKept : (Try.prog.info? 121).map (fun i => (i.zero, i.size, i.bytes)) = some (some (.agg #[.int .i64 0, .slice none 0 0, .bool false]), 3, 40) := by kernel_rfl
/-- the graph's block and what it holds -/
def GrB (w : World) (base G k m : Nat) (cs : List Kp) : Prop :=
  ∃ (HA RA : Option Addr) (hc rc : Nat) (hs : List SlR), Blk w G 49 #[.slice HA k hc, .slice RA m rc] ∧ GrS w base HA hc RA rc hs (sRoots (cs.take k)) ∧ hs.map SlR.l = sHas (cs.take k) ∧ hs.length = k ∧ (sRoots (cs.take k)).length = m
end Sto

end Go.Proofs.Ytpkccpegdpodoaa

/- A set of numbers as a map's datum. No program is named here. -/
namespace Go.Proofs.Ytpkccpegdpodoaa
open Go.RowKit

def setI (b : List Int) : DataW Unit := Maps.setOf (.agg []) (b.map (Lit.int .i64))
theorem setI_any_int (x : Int) : ∀ l : List Int, l.any ((fun y : Lit => y.sameKey (.int .i64 x)) ∘ Lit.int .i64) = l.contains x
  | [] => rfl
  | a :: r => by
    rw [List.any_cons, List.contains_cons, setI_any_int x r]
    congr 1
    show decide (IntKind.i64 = IntKind.i64 ∧ a = x) = (x == a)
    by_cases e : a = x
    · subst e; simp
    · have e' : ¬ x = a := fun h => e h.symm
      simp [e, e']
theorem has_setI (b : List Int) (x : Int) : Maps.has (setI b) (.int .i64 x) = b.contains x := by
  unfold setI
  rw [Maps.has_setOf _ _ _ (fun y hy => by obtain ⟨_, _, rfl⟩ := List.mem_map.1 hy; trivial), List.any_map]
  exact setI_any_int x _
theorem setI_snoc (b : List Int) (x : Int) : setI (b ++ [x]) = (setI b).put (.int .i64 x) (.agg []) := by
  unfold setI; rw [List.map_append, List.map_singleton, Maps.setOf_snoc]
theorem setI_nil : setI [] = .map [] := rfl

/-- numbers as ints -/
def ints (l : List Nat) : List Int := l.map fun k : Nat => (k : Int)
theorem ints_get {l : List Nat} {k : Nat} {x : Int} (h : (ints l)[k]? = some x) : ∃ j : Nat, x = (j : Int) ∧ l[k]? = some j := by
  unfold ints at h
  rw [List.getElem?_map] at h
  cases hq : l[k]? with
  | none => rw [hq] at h; cases h
  | some j => rw [hq] at h; injection h with h; exact ⟨j, h.symm, rfl⟩
theorem ints_length (l : List Nat) : (ints l).length = l.length := by unfold ints; rw [List.length_map]
theorem ints_contains (l : List Nat) (p : Nat) : (ints l).contains (p : Int) = l.contains p := by
  rw [Bool.eq_iff_iff, List.contains_iff_mem, List.contains_iff_mem]
  unfold ints
  rw [List.mem_map]
  constructor
  · rintro ⟨u, hu, he⟩
    have : u = p := by omega
    rw [← this]; exact hu
  · intro h; exact ⟨p, h, rfl⟩
theorem ints_okB {l : List Nat} {n : Nat} (h : ∀ k ∈ l, k < n) (hn : n ≤ 9223372036854775807) : ∀ x ∈ ints l, Flat.ok x := by
  intro x hx
  unfold ints at hx
  obtain ⟨k, hk, rfl⟩ := List.mem_map.1 hx
  have := h k hk
  show I64 _
  unfold I64
  omega
theorem ints_append (l r : List Nat) : ints (l ++ r) = ints l ++ ints r := by unfold ints; rw [List.map_append]

end Go.Proofs.Ytpkccpegdpodoaa

/- A region that draws, its operations taken one by one: one that is run in whatever order, one that a guard leaves out, one call. No program is named here. -/
namespace Go.Proofs.Ytpkccpegdpodoaa
open Go.RowKit

section
variable {P : Program} {ops : Array Oper} {Q : Exit → Act → World → Prop} {md : Region.Mode} {S : World → Prop} {fuel : Nat} {listed : Array Bool} {a : Act} {w : World}
theorem oi_of {i : Nat} {o : Oper} (h : ops.toList[i]? = some o) : ops[i]? = some o := by rw [← Array.getElem?_toList]; exact h
theorem held_take (i : Nat) {oi : Oper} {v : Value} (hi : ops.toList[i]? = some oi) (hs : Region.noSelect ops = true) (hf : Region.free md ops listed i = true) (hr : (Region.ready md ops listed).contains i = true)
    (hQ : ∀ c a w, Q (.panic c) (a.put oi.dst v) w → Q (.panic c) a w) (hw : Region.wanted oi (yielded ops a.tmps) = true) (hv : ∀ w, S w → (execOp a.eval oi).run P w = .ok (.value v) w) (hS : S w)
    (h : wpAnyH P md ops Q S fuel (listed.setIfInBounds i true) (a.put oi.dst v) w) : wpAnyH P md ops Q S (fuel + 1) listed a w := wpAnyH_take (oi_of hi) hs hf hr hQ (.inl ⟨hw, hv⟩) hS h
theorem held_skip (i : Nat) {oi : Oper} (hi : ops.toList[i]? = some oi) (hs : Region.noSelect ops = true) (hf : Region.free md ops listed i = true) (hr : (Region.ready md ops listed).contains i = true)
    (hQ : ∀ c a w, Q (.panic c) (a.put oi.dst undef) w → Q (.panic c) a w) (hw : Region.wanted oi (yielded ops a.tmps) = false) (hS : S w)
    (h : wpAnyH P md ops Q S fuel (listed.setIfInBounds i true) (a.put oi.dst undef) w) : wpAnyH P md ops Q S (fuel + 1) listed a w := wpAnyH_take (oi_of hi) hs hf hr hQ (.inr ⟨hw, rfl⟩) hS h
theorem held_call (i : Nat) {oi : Oper} (hr : Region.ready md ops listed = [i]) (hi : ops.toList[i]? = some oi)
    (h : ∀ K' : Act → World → Prop, Shut (∀ a w, S w → (S w → wpAnyH P md ops Q S fuel (listed.setIfInBounds i true) a w) → K' a w) → if Region.wanted oi (yielded ops a.tmps) = true then Oper.wp P oi a w K' Q else K' (a.put oi.dst undef) w) :
    wpAnyH P md ops Q S (fuel + 1) listed a w := wpAnyH_ready hr (by simp) (AllReadyH.cons (oi_of hi) h AllReadyH.nil)
end

end Go.Proofs.Ytpkccpegdpodoaa

/- A region that draws, where two operations are ready at once: both orders. No program is named here. -/
namespace Go.Proofs.Ytpkccpegdpodoaa
open Go.RowKit

section
variable {P : Program} {ops : Array Oper} {Q : Exit → Act → World → Prop} {md : Region.Mode} {S : World → Prop} {fuel : Nat} {listed : Array Bool} {a : Act} {w : World}
theorem held_call2 (i j : Nat) {oi oj : Oper} (hr : Region.ready md ops listed = [i, j]) (hi : ops.toList[i]? = some oi) (hj : ops.toList[j]? = some oj)
    (h1 : ∀ K' : Act → World → Prop, Shut (∀ a w, S w → (S w → wpAnyH P md ops Q S fuel (listed.setIfInBounds i true) a w) → K' a w) → if Region.wanted oi (yielded ops a.tmps) = true then Oper.wp P oi a w K' Q else K' (a.put oi.dst undef) w)
    (h2 : ∀ K' : Act → World → Prop, Shut (∀ a w, S w → (S w → wpAnyH P md ops Q S fuel (listed.setIfInBounds j true) a w) → K' a w) → if Region.wanted oj (yielded ops a.tmps) = true then Oper.wp P oj a w K' Q else K' (a.put oj.dst undef) w) :
    wpAnyH P md ops Q S (fuel + 1) listed a w := wpAnyH_ready hr (by simp) (AllReadyH.cons (oi_of hi) h1 (AllReadyH.cons (oi_of hj) h2 AllReadyH.nil))
theorem held_world (p : World → Prop) (h0 : p w) (h : ∀ w, p w → wpAnyH P md ops Q S fuel listed a w) : wpAnyH P md ops Q S fuel listed a w := h w h0
end

end Go.Proofs.Ytpkccpegdpodoaa

/- haul: its small functions; the places of objects. -/
namespace Go.Proofs.Ytpkccpegdpodoaa
open Go.RowKit Go.Maps

attribute [local go_sem ↓] Go.wp_at_zero Go.wp_at_succ

theorem info_partsH {P : Program} {e : TypeId} {z : Value} {s b : Nat} (h : (P.info? e).map (fun i => (i.zero, i.size, i.bytes)) = some (some z, s, b)) : ∃ i, P.info? e = some i ∧ i.zero = some z ∧ i.size = s ∧ i.bytes = b := by
  obtain ⟨i, hi, hz⟩ := Option.map_eq_some_iff.1 h
  simp only [Prod.mk.injEq] at hz
  exact ⟨i, hi, hz.1, hz.2.1, hz.2.2⟩
theorem infoIntH : (Try.prog.info? 3).map (fun i => (i.zero, i.size, i.bytes)) = some (some (.int .i64 0), 1, 8) := by kernel_rfl
theorem infoU64H : (Try.prog.info? 24).map (fun i => (i.zero, i.size, i.bytes)) = some (some (.int .u64 0), 1, 8) := by kernel_rfl
theorem infoRMoveH : (Try.prog.info? 82).map (fun i => (i.zero, i.size, i.bytes)) = some (some (.agg #[.int .i64 0, .int .i64 0]), 2, 16) := by kernel_rfl
theorem int_oneH : ∀ x : Int, ∀ u ∈ Flat.cells x, u.oneCell' = true := by
  intro x u hu; simp [Flat.cells] at hu; subst hu; rfl
theorem u64_oneH : ∀ x : U64, ∀ u ∈ Flat.cells x, u.oneCell' = true := by
  intro x u hu; simp [Flat.cells] at hu; subst hu; rfl
theorem pair_oneH : ∀ x : Int × Int, ∀ u ∈ Flat.cells x, u.oneCell' = true := by
  intro x u hu; simp [Flat.cells] at hu; rcases hu with rfl | rfl <;> rfl
theorem At.u64H {w : World} {B : Nat} {A : Option Addr} {l : List U64} {k : Nat} (h : At w B A l) (hk : k < l.length) :
    ∃ b o, A = some ⟨b, o, none⟩ ∧ b < B ∧ Flat.ok (Hau.wat l k) ∧ w.cell? ⟨b, o + k, none⟩ = some (.int .u64 (Hau.wat l k).val) := by
  obtain ⟨x, hx⟩ : ∃ x, l[k]? = some x := ⟨_, List.getElem?_eq_getElem hk⟩
  obtain ⟨b, o, cs, rfl, hb, hc, rfl, hok⟩ := h k x hx
  have h0 := hc 0 _ rfl
  have e : Hau.wat l k = x := by unfold Hau.wat; rw [List.getD_eq_getElem?_getD, hx]; rfl
  rw [e]
  simp only [Enc.sz, Flat.sz, Nat.mul_one, Nat.add_zero] at h0
  exact ⟨b, o, rfl, hb, hok, h0⟩
theorem At.intH {w : World} {B : Nat} {A : Option Addr} {l : List Nat} {k j : Nat} (h : At w B A (ints l)) (hj : l[k]? = some j) :
    ∃ b o, A = some ⟨b, o, none⟩ ∧ b < B ∧ w.cell? ⟨b, o + k, none⟩ = some (.int .i64 j) := by
  have hx : (ints l)[k]? = some (j : Int) := by unfold ints; rw [List.getElem?_map, hj]; rfl
  obtain ⟨b, o, cs, rfl, hb, hc, rfl, hok⟩ := h k _ hx
  have h0 := hc 0 _ rfl
  simp only [Enc.sz, Flat.sz, Nat.mul_one, Nat.add_zero] at h0
  exact ⟨b, o, rfl, hb, h0⟩

theorem Hau.unb5 {x n : Int} (_hx : 0 ≤ x) (h : unbL x = some (5, n)) : 0 ≤ n ∧ n < 4294967296 := by
  unfold unbL at h
  split at h
  · split at h
    · cases h
    · injection h with h; injection h with h1 h2; omega
  · split at h
    · injection h with h; injection h with h1 h2
      unfold numL at h2
      rw [h1] at h2
      simp only [show ¬ (5 : Int) = 2 by decide, if_false] at h2
      omega
    · cases h

set_option maxRecDepth 100000 in
theorem hlong_any (x : U64) (w : World) (hx : Flat.ok x) : Calls Try.prog 113 #[.int .u64 x.val] w fun e w' => e = .returned (.int .i64 (Hau.lg x)) ∧ w' = w := by
  obtain ⟨h0, h1⟩ : 0 ≤ x.val ∧ x.val ≤ 18446744073709551615 := hx
  have e1 : IntKind.u32.wrap x.val = x.val % 4294967296 := by rw [IntKind.wrap_u32]
  have e2 : IntKind.i64.wrap (x.val % 4294967296) = x.val % 4294967296 := IntWalk.i64_in _ (by omega)
  have e3 : x.val % 4294967296 = ((Hau.lg x : Nat) : Int) := by unfold Hau.lg; omega
  rw [e3] at e1 e2
  go_enter Try.func113, Try.ntmps113
  go_wp2_with fail
  go_returns
  exact ⟨rfl, rfl⟩

set_option maxRecDepth 100000 in
theorem place_any (x : U64) (w : World) (hx : Flat.ok x) : Calls Try.prog 170 #[.int .u64 x.val] w fun e w' => ∃ n : Int, e = .returned (.tuple #[.int .i64 n, .bool (Hau.refOf x).isSome]) ∧ (∀ p, Hau.refOf x = some p → n = (p : Int)) ∧ Below w.heap.size w w' := by
  go_enter Try.func170, Try.ntmps170
  go_wp2_with fail
  refine (unbox_any x.val _ hx).mono ?_
  rintro e w1 ⟨hb, hp⟩
  have hs := hb.size
  rcases hp with ⟨k, n, hu, rfl⟩ | ⟨hu, rfl⟩
  · have hr : Hau.refOf x = if k = 5 then some n.toNat else none := by unfold Hau.refOf; rw [hu]
    obtain ⟨r, hrr⟩ : ∃ r, Hau.refOf x = r := ⟨_, rfl⟩
    have hn5 : k = 5 → 0 ≤ n := fun h => (Hau.unb5 hx.1 (by rw [hu, h])).1
    rw [hrr] at hr
    have HR := Lib.hid (And.intro hrr (And.intro hr hn5)); clear hrr hr hn5 hu
    go_wp2_with fail
    refine wp_world (fun W => Blk W w1.heap.size 23 #[.int .i64 k, .int .i64 n] ∧ Below w.heap.size w W) ⟨Blk.new _ _ _, hb.alloc hs _⟩ ?_
    rintro W ⟨hW1, hW2⟩
    have b0 := hW1.cell 0 (v := .int .i64 k) rfl
    have b1 := hW1.cell 1 (v := .int .i64 n) rfl
    clear hW1
    by_cases hk : k = 5
    · have hd : (k == 5) = true := by simpa using hk
      have hres : r = some n.toNat := by rw [HR.out.2.1, if_pos hk]
      have hn := HR.out.2.2 hk
      have HX := Lib.hid (And.intro hres hn); clear hres hn hk
      refine wp_region_held_drew (S := (fun w' => w'.cell? ⟨w1.heap.size, 0, none⟩ = some (.int .i64 k) ∧ w'.cell? ⟨w1.heap.size, 1, none⟩ = some (.int .i64 n))) (by kernel_rfl) ?_ (fun hHeld0 => ?_)
      · first | trivial | ((try dsimp only); (exact ⟨b0, b1⟩))
      refine held_take (v := ?_) 0 rfl (by kernel_rfl) (by kernel_rfl) (by kernel_rfl) (fun _ _ _ h => h) (by rfl) ?_ (by assumption) ?_
      rotate_left
      · (intro w hSw; (try dsimp only at hSw); go_simp; try with_reducible rfl)
      try simp only [Act.put, List.setIfInBounds_toArray, List.set_cons_zero, List.set_cons_succ]
      refine held_take (v := ?_) 1 rfl (by kernel_rfl) (by kernel_rfl) (by kernel_rfl) (fun _ _ _ h => h) (by rfl) ?_ (by assumption) ?_
      rotate_left
      · (intro w hSw; (try dsimp only at hSw); go_simp; try with_reducible rfl)
      try simp only [Act.put, List.setIfInBounds_toArray, List.set_cons_zero, List.set_cons_succ]
      refine held_take (v := ?_) 2 rfl (by kernel_rfl) (by kernel_rfl) (by kernel_rfl) (fun _ _ _ h => h) (by rfl) ?_ (by assumption) ?_
      rotate_left
      · (intro w hSw; (try dsimp only at hSw); go_simp; try with_reducible rfl)
      try simp only [Act.put, List.setIfInBounds_toArray, List.set_cons_zero, List.set_cons_succ]
      refine held_take (v := ?_) 3 rfl (by kernel_rfl) (by kernel_rfl) (by kernel_rfl) (fun _ _ _ h => h) (by rfl) ?_ (by assumption) ?_
      rotate_left
      · (intro w hSw; (try dsimp only at hSw); go_simp; try with_reducible rfl)
      try simp only [Act.put, List.setIfInBounds_toArray, List.set_cons_zero, List.set_cons_succ]
      refine held_take (v := ?_) 4 rfl (by kernel_rfl) (by kernel_rfl) (by kernel_rfl) (fun _ _ _ h => h) (by rfl) ?_ (by assumption) ?_
      rotate_left
      · (intro w hSw; (try dsimp only at hSw); go_simp; try with_reducible rfl)
      try simp only [Act.put, List.setIfInBounds_toArray, List.set_cons_zero, List.set_cons_succ]
      refine held_take (v := ?_) 5 rfl (by kernel_rfl) (by kernel_rfl) (by kernel_rfl) (fun _ _ _ h => h) (by rfl) ?_ (by assumption) ?_
      rotate_left
      · (intro w hSw; (try dsimp only at hSw); go_simp; try with_reducible rfl)
      try simp only [Act.put, List.setIfInBounds_toArray, List.set_cons_zero, List.set_cons_succ]
      refine held_take (v := ?_) 6 rfl (by kernel_rfl) (by kernel_rfl) (by kernel_rfl) (fun _ _ _ h => h) (by rfl) ?_ (by assumption) ?_
      rotate_left
      · (intro w hSw; (try dsimp only at hSw); go_simp; try with_reducible rfl)
      try simp only [Act.put, List.setIfInBounds_toArray, List.set_cons_zero, List.set_cons_succ]
      refine held_take (v := ?_) 7 rfl (by kernel_rfl) (by kernel_rfl) (by kernel_rfl) (fun _ _ _ h => h) (by rfl) ?_ (by assumption) ?_
      rotate_left
      · (intro w hSw; (try dsimp only at hSw); go_simp; try with_reducible rfl)
      try simp only [Act.put, List.setIfInBounds_toArray, List.set_cons_zero, List.set_cons_succ]
      refine held_take (v := ?_) 8 rfl (by kernel_rfl) (by kernel_rfl) (by kernel_rfl) (fun _ _ _ h => h) (by rfl) ?_ (by assumption) ?_
      rotate_left
      · (intro w hSw; (try dsimp only at hSw); go_simp; try with_reducible rfl)
      try simp only [Act.put, List.setIfInBounds_toArray, List.set_cons_zero, List.set_cons_succ]
      refine held_take (v := ?_) 9 rfl (by kernel_rfl) (by kernel_rfl) (by kernel_rfl) (fun _ _ _ h => h) (by rfl) ?_ (by assumption) ?_
      rotate_left
      · (intro w hSw; (try dsimp only at hSw); go_simp; try with_reducible rfl)
      try simp only [Act.put, List.setIfInBounds_toArray, List.set_cons_zero, List.set_cons_succ]
      refine held_take (v := ?_) 10 rfl (by kernel_rfl) (by kernel_rfl) (by kernel_rfl) (fun _ _ _ h => h) (by rfl) ?_ (by assumption) ?_
      rotate_left
      · (intro w hSw; (try dsimp only at hSw); go_simp; try with_reducible rfl)
      try simp only [Act.put, List.setIfInBounds_toArray, List.set_cons_zero, List.set_cons_succ]
      refine wpAnyH_done (by kernel_rfl) ?_ _
      go_wp2_with fail
      go_returns
      exact ⟨n, by rw [HR.out.1, HX.out.1]; rfl, fun p hp => by rw [HR.out.1, HX.out.1] at hp; injection hp with hp; have := HX.out.2; omega, hW2.drew⟩
    · have hd : (k == 5) = false := by simpa using hk
      have hres : r = none := by rw [HR.out.2.1, if_neg hk]
      have HX := Lib.hid hres; clear hres hk
      refine wp_region_held_drew (S := (fun w' => w'.cell? ⟨w1.heap.size, 0, none⟩ = some (.int .i64 k) ∧ w'.cell? ⟨w1.heap.size, 1, none⟩ = some (.int .i64 n))) (by kernel_rfl) ?_ (fun hHeld0 => ?_)
      · first | trivial | ((try dsimp only); (exact ⟨b0, b1⟩))
      refine held_take (v := ?_) 0 rfl (by kernel_rfl) (by kernel_rfl) (by kernel_rfl) (fun _ _ _ h => h) (by rfl) ?_ (by assumption) ?_
      rotate_left
      · (intro w hSw; (try dsimp only at hSw); go_simp; try with_reducible rfl)
      try simp only [Act.put, List.setIfInBounds_toArray, List.set_cons_zero, List.set_cons_succ]
      refine held_take (v := ?_) 1 rfl (by kernel_rfl) (by kernel_rfl) (by kernel_rfl) (fun _ _ _ h => h) (by rfl) ?_ (by assumption) ?_
      rotate_left
      · (intro w hSw; (try dsimp only at hSw); go_simp; try with_reducible rfl)
      try simp only [Act.put, List.setIfInBounds_toArray, List.set_cons_zero, List.set_cons_succ]
      refine held_take (v := ?_) 2 rfl (by kernel_rfl) (by kernel_rfl) (by kernel_rfl) (fun _ _ _ h => h) (by rfl) ?_ (by assumption) ?_
      rotate_left
      · (intro w hSw; (try dsimp only at hSw); go_simp; try with_reducible rfl)
      try simp only [Act.put, List.setIfInBounds_toArray, List.set_cons_zero, List.set_cons_succ]
      refine held_take (v := ?_) 3 rfl (by kernel_rfl) (by kernel_rfl) (by kernel_rfl) (fun _ _ _ h => h) (by rfl) ?_ (by assumption) ?_
      rotate_left
      · (intro w hSw; (try dsimp only at hSw); go_simp; try with_reducible rfl)
      try simp only [Act.put, List.setIfInBounds_toArray, List.set_cons_zero, List.set_cons_succ]
      refine held_take (v := ?_) 4 rfl (by kernel_rfl) (by kernel_rfl) (by kernel_rfl) (fun _ _ _ h => h) (by rfl) ?_ (by assumption) ?_
      rotate_left
      · (intro w hSw; (try dsimp only at hSw); go_simp; try with_reducible rfl)
      try simp only [Act.put, List.setIfInBounds_toArray, List.set_cons_zero, List.set_cons_succ]
      refine held_take (v := ?_) 5 rfl (by kernel_rfl) (by kernel_rfl) (by kernel_rfl) (fun _ _ _ h => h) (by rfl) ?_ (by assumption) ?_
      rotate_left
      · (intro w hSw; (try dsimp only at hSw); go_simp; try with_reducible rfl)
      try simp only [Act.put, List.setIfInBounds_toArray, List.set_cons_zero, List.set_cons_succ]
      refine held_take (v := ?_) 6 rfl (by kernel_rfl) (by kernel_rfl) (by kernel_rfl) (fun _ _ _ h => h) (by rfl) ?_ (by assumption) ?_
      rotate_left
      · (intro w hSw; (try dsimp only at hSw); go_simp; try with_reducible rfl)
      try simp only [Act.put, List.setIfInBounds_toArray, List.set_cons_zero, List.set_cons_succ]
      refine held_take (v := ?_) 7 rfl (by kernel_rfl) (by kernel_rfl) (by kernel_rfl) (fun _ _ _ h => h) (by rfl) ?_ (by assumption) ?_
      rotate_left
      · (intro w hSw; (try dsimp only at hSw); go_simp; try with_reducible rfl)
      try simp only [Act.put, List.setIfInBounds_toArray, List.set_cons_zero, List.set_cons_succ]
      refine held_take (v := ?_) 8 rfl (by kernel_rfl) (by kernel_rfl) (by kernel_rfl) (fun _ _ _ h => h) (by rfl) ?_ (by assumption) ?_
      rotate_left
      · (intro w hSw; (try dsimp only at hSw); go_simp; try with_reducible rfl)
      try simp only [Act.put, List.setIfInBounds_toArray, List.set_cons_zero, List.set_cons_succ]
      refine held_take (v := ?_) 9 rfl (by kernel_rfl) (by kernel_rfl) (by kernel_rfl) (fun _ _ _ h => h) (by rfl) ?_ (by assumption) ?_
      rotate_left
      · (intro w hSw; (try dsimp only at hSw); go_simp; try with_reducible rfl)
      try simp only [Act.put, List.setIfInBounds_toArray, List.set_cons_zero, List.set_cons_succ]
      refine held_take (v := ?_) 10 rfl (by kernel_rfl) (by kernel_rfl) (by kernel_rfl) (fun _ _ _ h => h) (by rfl) ?_ (by assumption) ?_
      rotate_left
      · (intro w hSw; (try dsimp only at hSw); go_simp; try with_reducible rfl)
      try simp only [Act.put, List.setIfInBounds_toArray, List.set_cons_zero, List.set_cons_succ]
      refine wpAnyH_done (by kernel_rfl) ?_ _
      go_wp2_with fail
      go_returns
      exact ⟨n, by rw [HR.out.1, HX.out]; rfl, (fun p hp => by rw [HR.out.1, HX.out] at hp; cases hp), hW2.drew⟩
  · have hr : Hau.refOf x = none := by unfold Hau.refOf; rw [hu]
    have HR := Lib.hid hr; clear hr hu
    go_wp2_with fail
    refine wp_world (fun W => Blk W w1.heap.size 23 #[.int .i64 0, .int .i64 0] ∧ Below w.heap.size w W) ⟨Blk.new _ _ _, hb.alloc hs _⟩ ?_
    rintro W ⟨hW1, hW2⟩
    have b1 := hW1.cell 1 (v := .int .i64 0) rfl
    clear hW1
    refine wp_region_held_drew (S := (fun w' => w'.cell? ⟨w1.heap.size, 1, none⟩ = some (.int .i64 0))) (by kernel_rfl) ?_ (fun hHeld0 => ?_)
    · first | trivial | ((try dsimp only); (exact b1))
    refine held_take (v := ?_) 0 rfl (by kernel_rfl) (by kernel_rfl) (by kernel_rfl) (fun _ _ _ h => h) (by rfl) ?_ (by assumption) ?_
    rotate_left
    · (intro w hSw; (try dsimp only at hSw); go_simp; try with_reducible rfl)
    try simp only [Act.put, List.setIfInBounds_toArray, List.set_cons_zero, List.set_cons_succ]
    refine held_take (v := ?_) 1 rfl (by kernel_rfl) (by kernel_rfl) (by kernel_rfl) (fun _ _ _ h => h) (by rfl) ?_ (by assumption) ?_
    rotate_left
    · (intro w hSw; (try dsimp only at hSw); go_simp; try with_reducible rfl)
    try simp only [Act.put, List.setIfInBounds_toArray, List.set_cons_zero, List.set_cons_succ]
    refine held_take (v := ?_) 2 rfl (by kernel_rfl) (by kernel_rfl) (by kernel_rfl) (fun _ _ _ h => h) (by rfl) ?_ (by assumption) ?_
    rotate_left
    · (intro w hSw; (try dsimp only at hSw); go_simp; try with_reducible rfl)
    try simp only [Act.put, List.setIfInBounds_toArray, List.set_cons_zero, List.set_cons_succ]
    refine held_take (v := ?_) 3 rfl (by kernel_rfl) (by kernel_rfl) (by kernel_rfl) (fun _ _ _ h => h) (by rfl) ?_ (by assumption) ?_
    rotate_left
    · (intro w hSw; (try dsimp only at hSw); go_simp; try with_reducible rfl)
    try simp only [Act.put, List.setIfInBounds_toArray, List.set_cons_zero, List.set_cons_succ]
    refine held_take (v := ?_) 4 rfl (by kernel_rfl) (by kernel_rfl) (by kernel_rfl) (fun _ _ _ h => h) (by rfl) ?_ (by assumption) ?_
    rotate_left
    · (intro w hSw; (try dsimp only at hSw); go_simp; try with_reducible rfl)
    try simp only [Act.put, List.setIfInBounds_toArray, List.set_cons_zero, List.set_cons_succ]
    refine held_skip 5 rfl (by kernel_rfl) (by kernel_rfl) (by kernel_rfl) (fun _ _ _ h => h) (by rfl) (by assumption) ?_
    try simp only [Act.put, List.setIfInBounds_toArray, List.set_cons_zero, List.set_cons_succ]
    refine held_skip 6 rfl (by kernel_rfl) (by kernel_rfl) (by kernel_rfl) (fun _ _ _ h => h) (by rfl) (by assumption) ?_
    try simp only [Act.put, List.setIfInBounds_toArray, List.set_cons_zero, List.set_cons_succ]
    refine held_skip 7 rfl (by kernel_rfl) (by kernel_rfl) (by kernel_rfl) (fun _ _ _ h => h) (by rfl) (by assumption) ?_
    try simp only [Act.put, List.setIfInBounds_toArray, List.set_cons_zero, List.set_cons_succ]
    refine held_take (v := ?_) 8 rfl (by kernel_rfl) (by kernel_rfl) (by kernel_rfl) (fun _ _ _ h => h) (by rfl) ?_ (by assumption) ?_
    rotate_left
    · (intro w hSw; (try dsimp only at hSw); go_simp; try with_reducible rfl)
    try simp only [Act.put, List.setIfInBounds_toArray, List.set_cons_zero, List.set_cons_succ]
    refine held_take (v := ?_) 9 rfl (by kernel_rfl) (by kernel_rfl) (by kernel_rfl) (fun _ _ _ h => h) (by rfl) ?_ (by assumption) ?_
    rotate_left
    · (intro w hSw; (try dsimp only at hSw); go_simp; try with_reducible rfl)
    try simp only [Act.put, List.setIfInBounds_toArray, List.set_cons_zero, List.set_cons_succ]
    refine held_take (v := ?_) 10 rfl (by kernel_rfl) (by kernel_rfl) (by kernel_rfl) (fun _ _ _ h => h) (by rfl) ?_ (by assumption) ?_
    rotate_left
    · (intro w hSw; (try dsimp only at hSw); go_simp; try with_reducible rfl)
    try simp only [Act.put, List.setIfInBounds_toArray, List.set_cons_zero, List.set_cons_succ]
    refine wpAnyH_done (by kernel_rfl) ?_ _
    go_wp2_with fail
    go_returns
    exact ⟨0, by rw [HR.out]; rfl, (fun p hp => by rw [HR.out] at hp; cases hp), hW2.drew⟩

theorem lawIntH : Keyed Try.prog 3 := int_keyed Try.underlying3
theorem zeroUnitH (w : World) : (zeroValue 167).run Try.prog w = .ok (.agg #[]) w := by kernel_rfl
theorem zeroIntH (w : World) : (zeroValue 3).run Try.prog w = .ok (.int .i64 0) w := by kernel_rfl
theorem wf_i64H {x : Int} (h : I64 x) : (Lit.int .i64 x).wf = true := by
  obtain ⟨h1, h2⟩ := h
  simp [Lit.wf, IntKind.min, IntKind.max, IntKind.signed, IntKind.bits]; omega
theorem Hau.ref_lt {x : U64} (hx : Flat.ok x) {p : Nat} (h : Hau.refOf x = some p) : p < 4294967296 := by
  unfold Hau.refOf at h
  split at h
  · rename_i k n hu
    split at h
    · rename_i hk
      subst hk
      have := Hau.unb5 hx.1 hu
      injection h with h
      omega
    · cases h
  · cases h
theorem Hau.kind_nonneg {x : Int} {k n : Int} (hu : unbL x = some (k, n)) : ¬ k < 0 := by
  unfold unbL at hu
  split at hu
  · split at hu
    · cases hu
    · injection hu with hu; injection hu with h1 h2; omega
  · split at hu
    · injection hu with hu; injection hu with h1 h2
      unfold kindL at h1
      split at h1 <;> omega
    · cases hu
/-- fits, by what place and Kind tell -/
theorem Hau.fits_eq (pl : List Nat) (x : U64) : Hau.fits pl x = if kindOf x.val < 0 then false else match Hau.refOf x with | none => true | some p => pl.contains p := by
  unfold Hau.fits kindOf Hau.refOf
  cases hu : unbL x.val with
  | none => simp
  | some kn =>
    obtain ⟨k, n⟩ := kn
    have hk0 : ¬ k < 0 := Hau.kind_nonneg hu
    simp only
    rw [if_neg hk0]
    by_cases hk : k = 5
    · simp [hk]
    · simp [hk]

set_option maxHeartbeats 800000 in
set_option maxRecDepth 100000 in
theorem right_any (x : U64) (M N : Nat) (pl : List Nat) (w : World) (hx : Flat.ok x) (hown : w.ownsMap Try.prog 3 unitElem M N (setI (ints pl))) :
    Calls Try.prog 114 #[.int .u64 x.val, .map (some M)] w fun e w' => e = .returned (.bool (Hau.fits pl x)) ∧ Below w.heap.size w w' := by
  obtain ⟨q, hq⟩ : ∃ q, Hau.fits pl x = q := ⟨_, rfl⟩
  have hfe := Hau.fits_eq pl x
  rw [hq] at hfe
  rw [hq]
  have H := Lib.hid (And.intro hown (And.intro hfe hx)); clear hown hfe hq
  obtain ⟨kk, hkk⟩ : ∃ k, kindOf x.val = k := ⟨_, rfl⟩
  have hkc := fun W => kind_any x.val W H.out.2.2
  rw [hkk] at hkc
  have HK := Lib.hid (And.intro hkc hkk); clear hkc hkk hx
  go_enter Try.func114, Try.ntmps114
  go_wp2_with fail
  refine (HK.out.1 w).mono ?_
  rintro e w1 ⟨rfl, hb1⟩
  have hs1 := hb1.size
  by_cases hk0 : kk < 0
  · have hd : decide (kk < 0) = true := by simpa using hk0
    have hq : q = false := by rw [H.out.2.1, HK.out.2, if_pos hk0]
    subst hq
    go_wp2_with fail
    go_returns
    exact ⟨rfl, hb1⟩
  · have hd : decide (kk < 0) = false := by simpa using hk0
    have hq : q = match Hau.refOf x with | none => true | some p => pl.contains p := by rw [H.out.2.1, HK.out.2, if_neg hk0]
    have HQ := Lib.hid hq; clear hq hk0
    go_wp2_with fail
    refine (place_any x w1 H.out.2.2).mono ?_
    rintro e w2 ⟨n, rfl, hn, hb2⟩
    have hs2 := hb2.size
    have hb12 : Below w.heap.size w w2 := hb1.trans (hb2.mono hs1)
    cases hr : Hau.refOf x with
    | none =>
      have hq := HQ.out
      rw [hr] at hq
      have hq : q = true := hq
      subst hq
      rw [hr] at *
      have HN := Lib.hid hn; clear hn hr
      go_wp2_with fail
      go_returns
      exact ⟨rfl, hb12⟩
    | some p =>
      have hq := HQ.out
      rw [hr] at hq
      have hq : q = pl.contains p := hq
      have hnp := hn p hr
      subst hnp
      have hpl := Hau.ref_lt H.out.2.2 hr
      have hown2 := (H.out.1.kept (grownBy_below none hb1) (by simp)).kept (grownBy_below none hb2) (by simp)
      have hkey : keyOf Try.prog 3 (.int .i64 (p : Int)) = some (.int .i64 (p : Int)) := keyOf_int_mk Try.underlying3 (wf_i64H ⟨by omega, by omega⟩)
      have hh : Maps.has (setI (ints pl)) (.int .i64 (p : Int)) = q := by rw [has_setI, ints_contains, hq]
      have HO := Lib.hid (And.intro hown2 hkey); clear hown2 hkey hq
      simp only [Option.isSome_some]
      clear hn hr
      go_wp2_with (first | (at_lookup; refine wpList_lookup_own_unit _ rfl _ _ 166 rfl 3 167 lawIntH Try.underlying166 (zeroUnitH _) M N _ rfl HO.out.1 _ _ rfl HO.out.2 ?_) | fail)
      go_returns
      exact ⟨rfl, hb12.alloc (by omega) _⟩

end Go.Proofs.Ytpkccpegdpodoaa

/- haul.objects, R.Places: the places of objects. -/
namespace Go.Proofs.Ytpkccpegdpodoaa
open Go.RowKit Go.Maps

attribute [local go_sem ↓] Go.wp_at_zero Go.wp_at_succ

theorem Hau.objs_le {ws : List U64} : ∀ f p, (Hau.objs ws f p).length + p ≤ ws.length + p ∨ True := fun _ _ => .inr trivial
theorem Hau.lg_lt (x : U64) : Hau.lg x < 4294967296 := by unfold Hau.lg; omega

/-- what a round keeps: those that are told, those that come -/
def Hau.Walk (ws : List U64) (f p : Nat) (out : List Nat) : Prop := out ++ Hau.objs ws f p = Hau.places ws ∧ (Hau.oend ws f p == ws.length) = Hau.okW ws ∧ ws.length < f + p ∧ out.length ≤ p ∧ ∀ q ∈ out, q < ws.length
theorem Hau.Walk.start (ws : List U64) : Hau.Walk ws (ws.length + 1) 0 [] := ⟨rfl, rfl, by omega, Nat.le_refl _, by simp⟩
theorem Hau.Walk.step {ws : List U64} {f p : Nat} {out : List Nat} (h : Hau.Walk ws f p out) (hp : p < ws.length) : ∃ f', Hau.Walk ws f' (p + Hau.sz ws p) (out ++ [p]) := by
  obtain ⟨h1, h2, h3, h4, h5⟩ := h
  obtain ⟨f', e1, e2, e3⟩ := Hau.objs_step hp h3
  have := Hau.sz_pos ws p
  refine ⟨f', by rw [← h1, e1]; simp, by rw [← h2, e2], e3, by simp; omega, fun q hq => ?_⟩
  rcases List.mem_append.1 hq with hq | hq
  · exact h5 q hq
  · simp at hq; omega
theorem Hau.Walk.done {ws : List U64} {f p : Nat} {out : List Nat} (h : Hau.Walk ws f p out) (hp : ws.length ≤ p) : out = Hau.places ws ∧ (p == ws.length) = Hau.okW ws := by
  obtain ⟨h1, h2, h3, h4, h5⟩ := h
  rw [Hau.objs_done hp, List.append_nil] at h1
  rw [Hau.oend_done hp] at h2
  exact ⟨h1, h2⟩
/-- words that end within an object are none -/
theorem Hau.Walk.over {ws : List U64} {f p : Nat} {out : List Nat} (h : Hau.Walk ws f p out) (hp : p < ws.length) (ho : ws.length < p + Hau.sz ws p) : Hau.okW ws = false := by
  obtain ⟨f', h'⟩ := h.step hp
  rw [← (h'.done (by omega)).2]
  simp; omega

set_option maxHeartbeats 800000 in
set_option maxRecDepth 100000 in
theorem objects_any (B c : Nat) (A : Option Addr) (ws : List U64) (w : World) (h : At w B A ws) (hB : B ≤ w.heap.size) (hl : ws.length ≤ 2000) :
    Calls Try.prog 111 #[.slice A ws.length c] w fun e w' => ∃ OA oc, e = .returned (.tuple #[.slice OA (Hau.places ws).length oc, .bool (Hau.okW ws)]) ∧ Own w' w.heap.size 3 OA oc (ints (Hau.places ws)) ∧ Below w.heap.size w w' := by
  obtain ⟨i0, hi, hz0, hz1, hz2⟩ := info_partsH infoIntH
  have H := Lib.hid h; clear h
  go_enter Try.func111, Try.ntmps111
  go_wp2_with fail
  go_loopg [4, 5] (ws.length + 1) (fun gk v4 v5 wr => ∃ (f p : Nat) (out : List Nat) (OA : Option Addr) (oc : Nat), p ≤ ws.length + 4294967296 ∧ gk = ws.length + 1 - p ∧ v5 = .int .i64 p ∧ v4 = .slice OA out.length oc ∧ Hid (Hau.Walk ws f p out ∧ Own wr w.heap.size 3 OA oc (ints out)) ∧ Below w.heap.size w wr)
  case atStart => exact ⟨ws.length + 1, 0, [], none, 0, by omega, rfl, rfl, rfl, ⟨Hau.Walk.start ws, Own.nil_⟩, Below.refl _ _⟩
  case round =>
    obtain ⟨f, p, out, OA, oc, hp, rfl, rfl, rfl, hkeep, hbl⟩ := hrel
    have hsz := hbl.size
    by_cases hlt : p < ws.length
    · obtain ⟨b, o, rfl, hb, hok, g0⟩ := (H.out.below (hbl.mono hB)).u64H hlt
      obtain ⟨f', hst⟩ := hkeep.out.1.step hlt
      obtain ⟨x, hx⟩ : ∃ x, Hau.wat ws p = x := ⟨_, rfl⟩
      have hsx : Hau.sz ws p = 1 + Hau.lg x := by unfold Hau.sz; rw [hx]
      rw [hx] at g0 hok
      rw [hsx] at hst
      have hol := hkeep.out.1.2.2.2.1
      have hlx := Hau.lg_lt x
      have hil := ints_length out
      have hlong := fun W => hlong_any x W hok
      have HXX := Lib.hid hx
      have HK := Lib.hid (And.intro hst (And.intro hkeep.out (And.intro hil hlong))); clear hst hkeep hil hlong hok hx hsx
      obtain ⟨n, hn⟩ : ∃ n, out.length = n := ⟨_, rfl⟩
      rw [hn] at hol
      rw [hn]
      have HN := Lib.hid hn; clear hn
      obtain ⟨q, hq⟩ : ∃ q, Hau.lg x = q := ⟨_, rfl⟩
      rw [hq] at hlx HK
      have HQ := Lib.hid hq; clear hq
      have hw1 : IntKind.i64.wrap (1 + (q : Int)) = 1 + (q : Int) := IntWalk.i64_in _ (by omega)
      have hw2 : IntKind.i64.wrap ((p : Int) + (1 + (q : Int))) = (p : Int) + (1 + (q : Int)) := IntWalk.i64_in _ (by omega)
      go_wp2_with (at_builtin; go_must (refine wpList_app (α := Int) (n := n) (m := 1) (B := wr.heap.size + 1) (r := [(p : Int)]) rfl (.tmp 10) (.tmp 12) _ rfl w.heap.size 3 i0 _ 8 Try.underlying47 hi hz0 hz1 hz2 rfl (by decide) int_oneH (by rfl) (by rw [HK.out.2.2.1, HN.out]) (HK.out.2.1.2.alloc _) (by rfl) ?_ rfl (by omega) (by simp only [maxLen]; omega) (by simp; omega) ?_))
      · exact At.built wr #[.int .i64 (p : Int)] 3 [(p : Int)] rfl (by intro u hu; simp at hu; subst hu; show I64 _; unfold I64; omega)
      intro A2 c2 w2 hown2 hgr2 hat2
      have hbl2 : Below w.heap.size w w2 := (hbl.alloc (by omega) _).grown hgr2 (by simp; omega) (fun g hg => (HK.out.2.1.2.lt g hg).1)
      have hg1 := ((H.out.below (hbl2.mono hB)).u64H hlt)
      obtain ⟨b', o', he, -, -, g1⟩ := hg1
      injection he with he; injection he with he1 he2; subst he1 he2
      have hin : ints out ++ [(p : Int)] = ints (out ++ [p]) := by rw [ints_append]; rfl
      have hln : n + 1 = (out ++ [p]).length := by rw [List.length_append, HN.out]; rfl
      rw [hin] at hown2
      have HF := Lib.hid (And.intro hown2 hln); clear hown2 hln hin hgr2 hat2 g0
      rw [HXX.out] at g1
      have hlg := HK.out.2.2.2 w2
      have HLG := Lib.hid hlg; clear hlg
      go_wp2_with fail
      refine HLG.out.mono ?_
      rintro e w3 ⟨rfl, rfl⟩
      go_wp2_with fail
      go_roundg (ws.length + 1 - (p + (1 + q)))
      case measure => omega
      case rel => exact ⟨f', p + (1 + q), out ++ [p], A2, c2, by omega, rfl, by go_num, by rw [HF.out.2], ⟨HK.out.1, HF.out.1⟩, hbl2⟩
    · obtain ⟨hd1, hd2⟩ := hkeep.out.1.done (by omega)
      subst hd1
      obtain ⟨q, hq⟩ : ∃ q, Hau.okW ws = q := ⟨_, rfl⟩
      rw [hq] at hd2
      have hd3 : ((p : Int) == (ws.length : Int)) = q := by rw [← hd2, Bool.eq_iff_iff]; simp; omega
      have HD := Lib.hid hq; clear hd2 hq
      have hown := hkeep.out.2
      have HO := Lib.hid hown; clear hown hkeep
      go_wp2_with fail
      go_returns
      exact ⟨OA, oc, by simp only [HD.out]; rfl, HO.out, hbl⟩

end Go.Proofs.Ytpkccpegdpodoaa

/- R.Places, R.Has, R.wordFits. -/
namespace Go.Proofs.Ytpkccpegdpodoaa
open Go.RowKit Go.Maps

attribute [local go_sem ↓] Go.wp_at_zero Go.wp_at_succ

def RPlPost (ws : List U64) (w : World) (e : Ending) (w' : World) : Prop := Below w.heap.size w w' ∧
  ((Hau.okW ws = true ∧ ∃ OA oc, e = .returned (.tuple #[.slice OA (Hau.places ws).length oc, .bool true]) ∧ Own w' w.heap.size 3 OA oc (ints (Hau.places ws))) ∨ (Hau.okW ws = false ∧ e = .returned (.tuple #[.slice none 0 0, .bool false])))

set_option maxHeartbeats 800000 in
set_option maxRecDepth 100000 in
theorem rplaces_any (B c : Nat) (A : Option Addr) (ws : List U64) (w : World) (h : At w B A ws) (hB : B ≤ w.heap.size) (hl : ws.length ≤ 2000) :
    Calls Try.prog 41 #[.slice A ws.length c] w (RPlPost ws w) := by
  obtain ⟨i0, hi, hz0, hz1, hz2⟩ := info_partsH infoIntH
  have H := Lib.hid h; clear h
  go_enter Try.func41, Try.ntmps41
  go_wp2_with fail
  go_loopg [4, 5] (ws.length + 1) (fun gk v4 v5 wr => ∃ (f p : Nat) (out : List Nat) (OA : Option Addr) (oc : Nat), p ≤ ws.length ∧ gk = ws.length + 1 - p ∧ v5 = .int .i64 p ∧ v4 = .slice OA out.length oc ∧ Hid (Hau.Walk ws f p out ∧ Own wr w.heap.size 3 OA oc (ints out)) ∧ Below w.heap.size w wr)
  case atStart => exact ⟨ws.length + 1, 0, [], none, 0, by omega, rfl, rfl, rfl, ⟨Hau.Walk.start ws, Own.nil_⟩, Below.refl _ _⟩
  case round =>
    obtain ⟨f, p, out, OA, oc, hp, rfl, rfl, rfl, hkeep, hbl⟩ := hrel
    have hsz := hbl.size
    by_cases hlt : p < ws.length
    · obtain ⟨b, o, rfl, hb, hok, g0⟩ := (H.out.below (hbl.mono hB)).u64H hlt
      obtain ⟨f', hst⟩ := hkeep.out.1.step hlt
      have hov := hkeep.out.1.over hlt
      obtain ⟨x, hx⟩ : ∃ x, Hau.wat ws p = x := ⟨_, rfl⟩
      have hsx : Hau.sz ws p = 1 + Hau.lg x := by unfold Hau.sz; rw [hx]
      rw [hsx] at hst hov
      rw [hx] at hok
      have hol := hkeep.out.1.2.2.2.1
      have hlx := Hau.lg_lt x
      have hil := ints_length out
      have hlg : x.val % 4294967296 = ((Hau.lg x : Nat) : Int) := by have := hok.1; unfold Hau.lg; omega
      have HXX := Lib.hid hx
      obtain ⟨n, hn⟩ : ∃ n, out.length = n := ⟨_, rfl⟩
      rw [hn] at hol
      rw [hn]
      obtain ⟨q, hq⟩ : ∃ q, Hau.lg x = q := ⟨_, rfl⟩
      rw [hq] at hlx hst hov hlg
      have HK := Lib.hid (And.intro hst (And.intro hkeep.out (And.intro hil (And.intro hov hn)))); clear hst hkeep hil hov hx hsx hn hq
      have hw1 : IntKind.i64.wrap (1 + (q : Int)) = 1 + (q : Int) := IntWalk.i64_in _ (by omega)
      have hw2 : IntKind.i64.wrap ((p : Int) + (1 + (q : Int))) = (p : Int) + (1 + (q : Int)) := IntWalk.i64_in _ (by omega)
      have hw3 : IntKind.i64.wrap ((p : Int) + (q : Int)) = (p : Int) + (q : Int) := IntWalk.i64_in _ (by omega)
      have hx0 := hok.1
      have hx1 : x.val ≤ 18446744073709551615 := hok.2
      go_wp2_with (at_builtin; go_must (refine wpList_app (α := Int) (n := n) (m := 1) (B := wr.heap.size + 1) (r := [(p : Int)]) rfl (.tmp 19) (.tmp 21) _ rfl w.heap.size 3 i0 _ 8 Try.underlying47 hi hz0 hz1 hz2 rfl (by decide) int_oneH (by rfl) (by rw [HK.out.2.2.1, HK.out.2.2.2.2]) (HK.out.2.1.2.alloc _) (by rfl) ?_ rfl (by omega) (by simp only [maxLen]; omega) (by simp; omega) ?_))
      · exact At.built wr #[.int .i64 (p : Int)] 3 [(p : Int)] rfl (by intro u hu; simp at hu; subst hu; show I64 _; unfold I64; omega)
      intro A2 c2 w2 hown2 hgr2 hat2
      have hbl2 : Below w.heap.size w w2 := (hbl.alloc (by omega) _).grown hgr2 (by simp; omega) (fun g hg => (HK.out.2.1.2.lt g hg).1)
      obtain ⟨b', o', he, -, -, g1⟩ := ((H.out.below (hbl2.mono hB)).u64H hlt)
      injection he with he; injection he with he1 he2; subst he1 he2
      have hin : ints out ++ [(p : Int)] = ints (out ++ [p]) := by rw [ints_append]; rfl
      have hln : n + 1 = (out ++ [p]).length := by rw [List.length_append, HK.out.2.2.2.2]; rfl
      rw [hin] at hown2
      have HF := Lib.hid (And.intro hown2 hln); clear hown2 hln hin hgr2 hat2 g0
      rw [HXX.out] at g1
      by_cases hov2 : ws.length < p + (1 + q)
      · have hf := HK.out.2.2.2.1 hov2
        have hd : decide ((ws.length : Int) ≤ (p : Int) + (q : Int)) = true := by simp; omega
        have HV := Lib.hid hf; clear hf
        go_wp2_with fail
        go_returns
        exact ⟨hbl2, .inr ⟨HV.out, rfl⟩⟩
      · have hd : decide ((ws.length : Int) ≤ (p : Int) + (q : Int)) = false := by simp; omega
        go_wp2_with fail
        go_roundg (ws.length + 1 - (p + (1 + q)))
        case measure => omega
        case rel => exact ⟨f', p + (1 + q), out ++ [p], A2, c2, by omega, rfl, by go_num, by rw [HF.out.2], ⟨HK.out.1, HF.out.1⟩, hbl2⟩
    · obtain rfl : p = ws.length := by omega
      obtain ⟨hd1, hd2⟩ := hkeep.out.1.done (by omega)
      subst hd1
      have hok : Hau.okW ws = true := by rw [← hd2]; simp
      have HO := Lib.hid (And.intro hkeep.out.2 hok); clear hkeep hd2 hok
      go_wp2_with fail
      go_returns
      exact ⟨hbl, .inl ⟨HO.out.2, OA, oc, rfl, HO.out.1⟩⟩

theorem take_snocH {α : Type} (l : List α) (k : Nat) (x : α) (h : l[k]? = some x) : l.take (k + 1) = l.take k ++ [x] := by
  rw [List.take_add_one, h]; rfl

theorem hasIntH (A : Option Addr) (c B n : Nat) (l : List Nat) (x : Int) (w : World) (hn : l.length = n) (h : At w B A (ints l)) (hl : n ≤ 9223372036854775807) :
    Calls Try.prog 109 #[.slice A n c, .int .i64 x] w fun e w' => e = .returned (.bool ((ints l).contains x)) ∧ w' = w := by
  have H := Lib.hid h; clear h
  have HN := Lib.hid hn; clear hn
  obtain ⟨r, hr⟩ : ∃ r, (ints l).contains x = r := ⟨_, rfl⟩
  rw [hr]
  have HR := Lib.hid hr; clear hr
  go_enter Try.func109, Try.ntmps109
  go_wp2
  go_loop [9] (fun i => ∃ k : Nat, k ≤ n ∧ i = .int .i64 k ∧ Hid ((ints l).take k |>.contains x) = Hid (false = true)) (fun i => n - (intOf i).toNat)
  case atStart => exact ⟨0, Nat.zero_le _, rfl, by simp [Hid]⟩
  case round =>
    obtain ⟨k, hk, rfl, hno⟩ := hrel
    by_cases hlt : k < n
    · obtain ⟨y, hy⟩ : ∃ y, l[k]? = some y := ⟨_, List.getElem?_eq_getElem (by have := HN.out; omega)⟩
      obtain ⟨b, o, rfl, hb, h0⟩ := H.out.intH hy
      have hx : (ints l)[k]? = some (y : Int) := by unfold ints; rw [List.getElem?_map, hy]; rfl
      have HX := Lib.hid hx; clear hx hy
      have hlt2 : (k : Int) < (n : Int) := by omega
      by_cases hxy : x = (y : Int)
      · have hxy1 : (x == (y : Int)) = true := by simpa using hxy
        have hrt : r = true := by rw [← HR.out]; exact List.contains_iff_mem.2 (hxy ▸ List.mem_of_getElem? HX.out)
        subst hrt
        clear hxy
        go_wp2
        go_ret
        exact ⟨rfl, rfl⟩
      · have hxy2 : (x == (y : Int)) = false := by simpa using hxy
        have HXY := Lib.hid hxy; clear hxy
        go_wp2
        go_round
        case rel => exact ⟨k + 1, by omega, by go_num, by unfold Hid at hno ⊢; rw [take_snocH _ _ _ HX.out]; simp at hno ⊢; exact ⟨hno, fun h => HXY.out h⟩⟩
        case measure => simp [intOf]; omega
    · have hrf : r = false := by
        rw [← HR.out]
        have := hno
        unfold Hid at this
        rw [List.take_of_length_le (by rw [ints_length]; have := HN.out; omega)] at this
        cases hc : (ints l).contains x with
        | false => rfl
        | true => rw [hc] at this; simp at this
      subst hrf
      go_wp2
      go_ret
      exact ⟨rfl, rfl⟩

end Go.Proofs.Ytpkccpegdpodoaa

/- R.wordFits, R.HeapFault. -/
namespace Go.Proofs.Ytpkccpegdpodoaa
open Go.RowKit Go.Maps

attribute [local go_sem ↓] Go.wp_at_zero Go.wp_at_succ

set_option maxHeartbeats 800000 in
set_option maxRecDepth 100000 in
theorem wordFits_any (B pc n : Nat) (PA : Option Addr) (pl : List Nat) (x : U64) (w : World) (hx : Flat.ok x) (hn : pl.length = n) (hn1 : n ≤ 100000) (hp : At w B PA (ints pl)) (hB : B ≤ w.heap.size) :
    Calls Try.prog 110 #[.int .u64 x.val, .slice PA n pc] w fun e w' => e = .returned (.bool (Hau.fits pl x)) ∧ Below w.heap.size w w' := by
  obtain ⟨q, hq⟩ : ∃ q, Hau.fits pl x = q := ⟨_, rfl⟩
  rw [hq]
  have H := Lib.hid (And.intro hp (And.intro hn hq)); clear hp hn hq
  go_enter Try.func110, Try.ntmps110
  go_wp2_with fail
  refine (runbox_any x.val _ hx).mono ?_
  rintro e w1 ⟨hb, hr⟩
  have hs := hb.size
  rcases hr with ⟨k, m, hu, rfl⟩ | ⟨hu, rfl⟩
  · have hf : Hau.fits pl x = (decide (k ≠ 5) || pl.contains m.toNat) := by unfold Hau.fits; rw [hu]
    have hm5 : k = 5 → 0 ≤ m := fun h => (Hau.unb5 hx.1 (by rw [hu, h])).1
    rw [H.out.2.2] at hf
    have HF := Lib.hid (And.intro hf hm5); clear hf hm5 hu
    by_cases hk : k = 5
    · have hm0 := HF.out.2 hk
      have hqq : (ints pl).contains m = q := by
        have hc : (ints pl).contains m = pl.contains m.toNat := by
          obtain ⟨mn, rfl⟩ := Int.eq_ofNat_of_zero_le hm0
          rw [ints_contains]; rfl
        rw [hc, HF.out.1]; simp [hk]
      have HH := Lib.hid (And.intro hm0 hqq); clear hqq hm0
      subst hk
      go_wp2_with fail
      refine calls_world (fun W => Below w.heap.size w W) (hb.alloc hs _) ?_
      intro W hW2
      have hh := hasIntH PA pc B n pl m W H.out.2.1 (H.out.1.below (hW2.mono hB)) (by omega)
      rw [HH.out.2] at hh
      refine hh.mono ?_
      rintro e w2 ⟨rfl, rfl⟩
      clear hh
      go_wp2_with fail
      go_returns
      exact ⟨rfl, hW2⟩
    · have hd : (k != 5) = true := by simpa using hk
      have hqq : q = true := by rw [HF.out.1]; simp [hk]
      subst hqq
      have HK := Lib.hid hk; clear hk
      go_wp2_with fail
      go_returns
      exact ⟨rfl, hb.alloc hs _⟩
  · have hf : Hau.fits pl x = false := by unfold Hau.fits; rw [hu]
    rw [H.out.2.2] at hf
    subst hf
    clear hu
    go_wp2_with fail
    go_returns
    exact ⟨rfl, hb.alloc hs _⟩

/-- do words, from some on, fit? -/
def Hau.upto (ws : List U64) (k : Nat) : Prop := ∀ i, i < k → ((Hau.places ws).contains i || Hau.fits (Hau.places ws) (Hau.wat ws i)) = true
theorem Hau.upto_ok {ws : List U64} (h : Hau.upto ws ws.length) : Hau.wordsOk ws = true := by
  unfold Hau.wordsOk
  rw [List.all_eq_true]
  intro i hi
  exact h i (List.mem_range.1 hi)
theorem Hau.upto_no {ws : List U64} {k : Nat} (hk : k < ws.length) (h : ((Hau.places ws).contains k || Hau.fits (Hau.places ws) (Hau.wat ws k)) = false) : Hau.wordsOk ws = false := by
  rw [Bool.eq_false_iff]
  intro hw
  unfold Hau.wordsOk at hw
  have := List.all_eq_true.1 hw k (List.mem_range.2 hk)
  rw [h] at this; cases this
def Hau.rupto (ws roots : List U64) (k : Nat) : Prop := ∀ x ∈ roots.take k, Hau.fits (Hau.places ws) x = true
theorem Hau.rupto_ok {ws roots : List U64} (h : Hau.rupto ws roots roots.length) : Hau.rootsOk ws roots = true := by
  unfold Hau.rootsOk
  rw [List.all_eq_true]
  intro x hx
  exact h x (by rw [List.take_length]; exact hx)
theorem Hau.rupto_no {ws roots : List U64} {k : Nat} (hk : k < roots.length) (h : Hau.fits (Hau.places ws) (Hau.wat roots k) = false) : Hau.rootsOk ws roots = false := by
  rw [Bool.eq_false_iff]
  intro hw
  unfold Hau.rootsOk at hw
  have := List.all_eq_true.1 hw (Hau.wat roots k) (by unfold Hau.wat; rw [List.getD_eq_getElem?_getD, List.getElem?_eq_getElem hk]; exact List.getElem_mem hk)
  rw [h] at this; cases this
theorem Hau.rupto_next {ws roots : List U64} {k : Nat} (hk : k < roots.length) (h : Hau.rupto ws roots k) (hf : Hau.fits (Hau.places ws) (Hau.wat roots k) = true) : Hau.rupto ws roots (k + 1) := by
  intro x hx
  rw [List.take_add_one, List.getElem?_eq_getElem hk, Option.toList_some] at hx
  rcases List.mem_append.1 hx with hx | hx
  · exact h x hx
  · simp at hx
    have : Hau.wat roots k = x := by unfold Hau.wat; rw [List.getD_eq_getElem?_getD, List.getElem?_eq_getElem hk, hx]; rfl
    rw [← this]; exact hf
/-- the places of right words are within -/
theorem Hau.places_lt (ws : List U64) : ∀ q ∈ Hau.places ws, q < ws.length := by
  have key : ∀ f p, ∀ q ∈ Hau.objs ws f p, q < ws.length := by
    intro f
    induction f with
    | zero => intro p q h; cases h
    | succ f ih =>
      intro p q h
      unfold Hau.objs at h
      split at h
      · rcases List.mem_cons.1 h with rfl | h
        · assumption
        · exact ih _ q h
      · cases h
  exact key _ _
theorem Hau.objs_len (ws : List U64) : ∀ f p, (Hau.objs ws f p).length ≤ ws.length - p
  | 0, p => by simp [Hau.objs]
  | f + 1, p => by
    unfold Hau.objs
    split
    · have := Hau.objs_len ws f (p + Hau.sz ws p)
      have := Hau.sz_pos ws p
      rw [List.length_cons]; omega
    · simp
theorem Hau.places_len (ws : List U64) : (Hau.places ws).length ≤ ws.length := by have := Hau.objs_len ws (ws.length + 1) 0; unfold Hau.places; omega

/-- a heap's two lists, as a struct's cells -/
def HpAt (w : World) (B : Nat) (h : Hp) (WA RA : Option Addr) : Prop := At w B WA h.words ∧ At w B RA h.roots

set_option maxHeartbeats 1600000 in
set_option maxRecDepth 100000 in
theorem heapFault_any (B wc rc : Nat) (WA RA : Option Addr) (h : Hp) (w : World) (hh : HpAt w B h WA RA) (hB : B ≤ w.heap.size) :
    Calls Try.prog 37 #[.agg #[.slice WA h.words.length wc, .slice RA h.roots.length rc]] w fun e w' => e = .returned (.int .i64 (Hau.heapErr h)) ∧ Below w.heap.size w w' := by
  obtain ⟨ws, roots⟩ := h
  obtain ⟨hw, hr⟩ := hh
  simp only at hw hr
  obtain ⟨er, her⟩ : ∃ e, Hau.heapErr ⟨ws, roots⟩ = e := ⟨_, rfl⟩
  rw [her]
  unfold Hau.heapErr at her
  simp only at her
  have H := Lib.hid (And.intro hw (And.intro hr her)); clear hw hr her
  by_cases hl1 : 2000 < ws.length
  · have hd : decide ((2000 : Int) < (ws.length : Int)) = true := by simp; omega
    have he : er = 2 := by rw [← H.out.2.2, if_pos (.inl hl1)]
    subst he
    go_enter Try.func37, Try.ntmps37
    go_wp2_with fail
    go_returns
    exact ⟨rfl, (Below.refl _ _).alloc (Nat.le_refl _) _⟩
  have hd : decide ((2000 : Int) < (ws.length : Int)) = false := by simp; omega
  by_cases hl2 : 100 < roots.length
  · have hd2 : decide ((100 : Int) < (roots.length : Int)) = true := by simp; omega
    have he : er = 2 := by rw [← H.out.2.2, if_pos (.inr hl2)]
    subst he
    go_enter Try.func37, Try.ntmps37
    go_wp2_with fail
    go_returns
    exact ⟨rfl, (Below.refl _ _).alloc (Nat.le_refl _) _⟩
  have hd2 : decide ((100 : Int) < (roots.length : Int)) = false := by simp; omega
  have her := H.out.2.2
  rw [if_neg (by omega)] at her
  have HE := Lib.hid her; clear her
  go_enter Try.func37, Try.ntmps37
  go_wp2_with fail
  refine calls_world (fun W => Blk W w.heap.size 70 #[.slice WA ws.length wc, .slice RA roots.length rc] ∧ Below w.heap.size w W ∧ w.heap.size + 1 ≤ W.heap.size) ⟨Blk.new _ _ _, (Below.refl _ _).alloc (Nat.le_refl _) _, by simp⟩ ?_
  rintro W ⟨hG, hb0, hs0⟩
  have hpl := rplaces_any B wc WA ws W (H.out.1.below (hb0.mono hB)) (by omega) (by omega)
  refine hpl.mono ?_
  rintro e w1 ⟨hb1, hp⟩
  have hs1 := hb1.size
  have hb01 : Below w.heap.size w w1 := hb0.trans (hb1.mono (by omega))
  have hG1 := hG.fresh hb1
  clear hpl hG hb0
  rcases hp with ⟨hok, OA, oc, rfl, ho⟩ | ⟨hok, rfl⟩
  · have her := HE.out
    rw [hok, if_neg (by decide)] at her
    have hlen := Hau.places_len ws
    have hplt := Hau.places_lt ws
    obtain ⟨pl, hpl⟩ : ∃ p, Hau.places ws = p := ⟨_, rfl⟩
    rw [hpl] at ho hlen hplt
    have hto : At w1 w1.heap.size OA (ints pl) := ho.at_ (ints_okB hplt (by omega))
    obtain ⟨n, hn⟩ : ∃ n, pl.length = n := ⟨_, rfl⟩
    rw [hpl, hn]
    rw [hn] at hlen
    have g0 := hG1.cell 0 (v := .slice WA ws.length wc) rfl
    have HP := Lib.hid (And.intro hG1 (And.intro hto (And.intro hpl (And.intro hn her)))); clear hG1 hto hpl hn her hok ho hplt
    go_wp2_with fail
    go_loopg [5, 6, 30] ws.length (fun gk v5 v6 v30 wr => ∃ i : Nat, i ≤ ws.length ∧ gk = ws.length - i ∧ v30 = .int .i64 i ∧ Hid (Hau.upto ws i) ∧ Below w1.heap.size w1 wr)
    case atStart => exact ⟨0, by omega, rfl, rfl, (by unfold Hid; intro i hi; omega), Below.refl _ _⟩
    case round =>
      obtain ⟨i, hi, rfl, rfl, hup, hbl⟩ := hrel
      have hsz := hbl.size
      have hb2 : Below w.heap.size w wr := hb01.trans (hbl.mono (by omega))
      by_cases hlt : i < ws.length
      · obtain ⟨b, o, rfl, hb', hok', g1⟩ := (H.out.1.below (hb2.mono hB)).u64H hlt
        have hlt2 : (i : Int) < (ws.length : Int) := by omega
        have hhas := hasIntH OA oc w1.heap.size n pl i wr HP.out.2.2.2.1 (HP.out.2.1.below hbl) (by omega)
        rw [ints_contains] at hhas
        have hstep : (pl.contains i || Hau.fits pl (Hau.wat ws i)) = true → Hau.upto ws (i + 1) := by
          intro h j hj
          by_cases hji : j = i
          · subst hji; rw [HP.out.2.2.1]; exact h
          · exact hup.out j (by omega)
        have hstop : (pl.contains i || Hau.fits pl (Hau.wat ws i)) = false → er = 3 := by
          intro h
          have := Hau.upto_no hlt (by rw [HP.out.2.2.1]; exact h)
          rw [← HP.out.2.2.2.2, if_pos this]
        have hfit := wordFits_any w1.heap.size oc n OA pl (Hau.wat ws i) wr hok' HP.out.2.2.2.1 (by omega) (HP.out.2.1.below hbl) (by omega)
        obtain ⟨x, hx⟩ : ∃ x, Hau.wat ws i = x := ⟨_, rfl⟩
        rw [hx] at g1 hstep hstop hfit
        obtain ⟨r, hr⟩ : ∃ r, pl.contains i = r := ⟨_, rfl⟩
        rw [hr] at hhas hstep hstop
        obtain ⟨u, hu⟩ : ∃ r, Hau.fits pl x = r := ⟨_, rfl⟩
        rw [hu] at hfit hstep hstop
        have HS := Lib.hid (And.intro hhas (And.intro hfit (And.intro hstep hstop))); clear hhas hfit hstep hstop hok' hr hu hx
        cases r
        · go_wp2_with fail
          refine HS.out.1.mono ?_
          rintro e w2 ⟨rfl, rfl⟩
          go_wp2_with fail
          refine HS.out.2.1.mono ?_
          rintro e w3 ⟨rfl, hb3⟩
          have hbl3 : Below w1.heap.size w1 w3 := hbl.trans (hb3.mono (by omega))
          cases u
          · have he := HS.out.2.2.2 rfl
            subst he
            clear HS
            go_wp2_with fail
            go_returns
            exact ⟨rfl, hb01.trans (hbl3.mono (by omega))⟩
          · have hup2 := Lib.hid (HS.out.2.2.1 rfl)
            clear HS
            go_wp2_with fail
            go_roundg (ws.length - (i + 1))
            case measure => omega
            case rel => exact ⟨i + 1, by omega, rfl, by go_num, hup2, hbl3⟩
        · have hup2 := Lib.hid (HS.out.2.2.1 rfl)
          go_wp2_with fail
          refine HS.out.1.mono ?_
          rintro e w2 ⟨rfl, rfl⟩
          clear HS
          go_wp2_with fail
          go_roundg (ws.length - (i + 1))
          case measure => omega
          case rel => exact ⟨i + 1, by omega, rfl, by go_num, hup2, hbl⟩
      · obtain rfl : i = ws.length := by omega
        have hwo := Hau.upto_ok hup.out
        have her := HP.out.2.2.2.2
        rw [hwo, if_neg (by decide)] at her
        have g1 := (HP.out.1.fresh hbl).cell 1 (v := .slice RA roots.length rc) rfl
        have HR := Lib.hid her; clear her hwo hup
        go_wp2_with fail
        have hb3 : Below w.heap.size w wr := hb2
        obtain ⟨wo, rfl⟩ : ∃ x, x = wr := ⟨_, rfl⟩
        go_loopg [8, 49] roots.length (fun gk v8 v49 wr => ∃ i : Nat, i ≤ roots.length ∧ gk = roots.length - i ∧ v49 = .int .i64 i ∧ Hid (Hau.rupto ws roots i) ∧ Below wo.heap.size wo wr)
        case atStart => exact ⟨0, by omega, rfl, rfl, (by unfold Hid; intro x hx; simp at hx), Below.refl _ _⟩
        case round =>
          obtain ⟨i, hi, rfl, rfl, hup, hbm⟩ := hrel
          have hsm := hbm.size
          have hbq : Below w1.heap.size w1 wr := hbl.trans (hbm.mono (by omega))
          have hbq2 : Below w.heap.size w wr := hb01.trans (hbq.mono (by omega))
          by_cases hlt : i < roots.length
          · obtain ⟨b, o, rfl, hb', hok', g2⟩ := (H.out.2.1.below (hbq2.mono hB)).u64H hlt
            have hlt2 : (i : Int) < (roots.length : Int) := by omega
            have hfit := wordFits_any w1.heap.size oc n OA pl (Hau.wat roots i) wr hok' HP.out.2.2.2.1 (by omega) (HP.out.2.1.below hbq) (by omega)
            have hstep : Hau.fits pl (Hau.wat roots i) = true → Hau.rupto ws roots (i + 1) := by
              intro h
              exact Hau.rupto_next hlt hup.out (by rw [HP.out.2.2.1]; exact h)
            have hstop : Hau.fits pl (Hau.wat roots i) = false → er = 3 := by
              intro h
              have := Hau.rupto_no hlt (by rw [HP.out.2.2.1]; exact h)
              rw [← HR.out, if_pos this]
            obtain ⟨x, hx⟩ : ∃ x, Hau.wat roots i = x := ⟨_, rfl⟩
            rw [hx] at g2 hstep hstop hfit
            obtain ⟨u, hu⟩ : ∃ r, Hau.fits pl x = r := ⟨_, rfl⟩
            rw [hu] at hfit hstep hstop
            have HS := Lib.hid (And.intro hfit (And.intro hstep hstop)); clear hfit hstep hstop hok' hu hx
            go_wp2_with fail
            refine HS.out.1.mono ?_
            rintro e w3 ⟨rfl, hb4⟩
            have hbm3 : Below wo.heap.size wo w3 := hbm.trans (hb4.mono (by omega))
            cases u
            · have he := HS.out.2.2 rfl
              subst he
              clear HS
              go_wp2_with fail
              go_returns
              exact ⟨rfl, hb3.trans (hbm3.mono (by omega))⟩
            · have hup2 := Lib.hid (HS.out.2.1 rfl)
              clear HS
              go_wp2_with fail
              go_roundg (roots.length - (i + 1))
              case measure => omega
              case rel => exact ⟨i + 1, by omega, rfl, by go_num, hup2, hbm3⟩
          · obtain rfl : i = roots.length := by omega
            have hro := Hau.rupto_ok hup.out
            have her := HR.out
            rw [hro, if_neg (by decide)] at her
            subst her
            clear hro hup
            go_wp2_with fail
            go_returns
            exact ⟨rfl, hbq2⟩
  · have he : er = 3 := by rw [← HE.out, if_pos hok]
    subst he
    clear hok hG1
    go_wp2_with fail
    go_returns
    exact ⟨rfl, hb01⟩

end Go.Proofs.Ytpkccpegdpodoaa

/- haul.Check. -/
namespace Go.Proofs.Ytpkccpegdpodoaa
open Go.RowKit Go.Maps

attribute [local go_sem ↓] Go.wp_at_zero Go.wp_at_succ

set_option maxHeartbeats 1600000 in
set_option maxRecDepth 100000 in
theorem hcheck_any (B wc rc : Nat) (WA RA : Option Addr) (h : Hp) (w : World) (hh : HpAt w B h WA RA) (hB : B ≤ w.heap.size) :
    Calls Try.prog 40 #[.agg #[.slice WA h.words.length wc, .slice RA h.roots.length rc]] w fun e w' => e = .returned (.int .i64 (Hau.heapErr h)) ∧ Below w.heap.size w w' := by
  obtain ⟨ws, roots⟩ := h
  obtain ⟨hw, hr⟩ := hh
  simp only at hw hr
  obtain ⟨er, her⟩ : ∃ e, Hau.heapErr ⟨ws, roots⟩ = e := ⟨_, rfl⟩
  rw [her]
  unfold Hau.heapErr at her
  simp only at her
  have H := Lib.hid (And.intro hw (And.intro hr her)); clear hw hr her
  by_cases hl1 : 2000 < ws.length
  · have hd : decide ((2000 : Int) < (ws.length : Int)) = true := by simp; omega
    have he : er = 2 := by rw [← H.out.2.2, if_pos (.inl hl1)]
    subst he
    go_enter Try.func40, Try.ntmps40
    go_wp2_with fail
    go_returns
    exact ⟨rfl, (Below.refl _ _).alloc (Nat.le_refl _) _⟩
  have hd : decide ((2000 : Int) < (ws.length : Int)) = false := by simp; omega
  by_cases hl2 : 100 < roots.length
  · have hd2 : decide ((100 : Int) < (roots.length : Int)) = true := by simp; omega
    have he : er = 2 := by rw [← H.out.2.2, if_pos (.inr hl2)]
    subst he
    go_enter Try.func40, Try.ntmps40
    go_wp2_with fail
    go_returns
    exact ⟨rfl, (Below.refl _ _).alloc (Nat.le_refl _) _⟩
  have hd2 : decide ((100 : Int) < (roots.length : Int)) = false := by simp; omega
  have her := H.out.2.2
  rw [if_neg (by omega)] at her
  have HE := Lib.hid her; clear her
  go_enter Try.func40, Try.ntmps40
  go_wp2_with fail
  refine calls_world (fun W => Blk W w.heap.size 70 #[.slice WA ws.length wc, .slice RA roots.length rc] ∧ Below w.heap.size w W ∧ w.heap.size + 1 ≤ W.heap.size) ⟨Blk.new _ _ _, (Below.refl _ _).alloc (Nat.le_refl _) _, by simp⟩ ?_
  rintro W ⟨hG, hb0, hs0⟩
  have hpl := objects_any B wc WA ws W (H.out.1.below (hb0.mono hB)) (by omega) (by omega)
  refine hpl.mono ?_
  rintro e w1 ⟨OA, oc, rfl, ho, hb1⟩
  have hs1 := hb1.size
  have hb01 : Below w.heap.size w w1 := hb0.trans (hb1.mono (by omega))
  have hG1 := hG.fresh hb1
  clear hpl hG hb0
  by_cases hok : Hau.okW ws = true
  · have her := HE.out
    rw [hok, if_neg (by decide)] at her
    rw [hok]
    have hlen := Hau.places_len ws
    have hplt := Hau.places_lt ws
    obtain ⟨pl, hpl⟩ : ∃ p, Hau.places ws = p := ⟨_, rfl⟩
    rw [hpl] at ho hlen hplt
    have hto : At w1 w1.heap.size OA (ints pl) := ho.at_ (ints_okB hplt (by omega))
    obtain ⟨n, hn⟩ : ∃ n, pl.length = n := ⟨_, rfl⟩
    rw [hpl, hn]
    rw [hn] at hlen
    have hplt2 : ∀ q ∈ pl, q < 9223372036854775808 := fun q hq => by have := hplt q hq; omega
    have HP := Lib.hid (And.intro hG1 (And.intro hto (And.intro hpl (And.intro hn (And.intro her hplt2))))); clear hG1 hto hpl hn her hok ho hplt hplt2
    have hmm := @run_makeMap Try.prog
    go_wp2_with fail
    clear hmm
    go_loopg [7, 35] n (fun gk v7 v35 wr => ∃ i : Nat, i ≤ n ∧ gk = n - i ∧ v35 = .int .i64 i ∧ wr.ownsMap Try.prog 3 unitElem w1.heap.size i (setI (ints (pl.take i))) ∧ Below w1.heap.size w1 wr ∧ w1.heap.size + 1 ≤ wr.heap.size)
    case atStart => exact ⟨0, by omega, rfl, rfl, World.ownsMap_made _ _ _ _, (Below.refl _ _).alloc (Nat.le_refl _) _, by simp⟩
    case round =>
      obtain ⟨i, hi, rfl, rfl, hown, hbl, hsz⟩ := hrel
      have HO := Lib.hid hown; clear hown
      by_cases hlt : i < n
      · obtain ⟨j, hj⟩ : ∃ j, pl[i]? = some j := ⟨_, List.getElem?_eq_getElem (by have := HP.out.2.2.2.1; omega)⟩
        obtain ⟨b, o, rfl, hb', g1⟩ := (HP.out.2.1.below hbl).intH hj
        have hlt2 : (i : Int) < (n : Int) := by omega
        have hjl := HP.out.2.2.2.2.2 j (List.mem_of_getElem? hj)
        have hkey : keyOf Try.prog 3 (.int .i64 (j : Int)) = some (.int .i64 (j : Int)) := keyOf_int_mk Try.underlying3 (wf_i64H ⟨by omega, by omega⟩)
        have hsn : setI (ints (pl.take (i + 1))) = (setI (ints (pl.take i))).put (.int .i64 (j : Int)) (.agg []) := by rw [take_snocH _ _ _ hj, ints_append, show ints [j] = [(j : Int)] from rfl, setI_snoc]
        have HKEY := Lib.hid (And.intro hkey hsn); clear hkey hsn hj
        go_wp2_with (first | (at_mapUpdate; refine wpList_mapUpdate_own _ rfl _ _ _ 166 rfl 3 167 lawIntH Try.underlying166 (unitElem (H := Unit)) w1.heap.size i _ rfl HO.out (by unfold maxLen; omega) _ _ _ rfl rfl HKEY.out.1 _ [] unitElem_mk ?_; intro w3 hown3 hgrow3) | fail)
        have hs3 := hgrow3.size
        go_roundg (n - (i + 1))
        case measure => omega
        case rel => exact ⟨i + 1, by omega, rfl, by go_num, by rw [HKEY.out.2]; exact hown3, hbl.grown hgrow3 (by omega) (fun j hj => by cases hj; exact Nat.le_refl _), by omega⟩
      · obtain rfl : i = n := by omega
        have hO := HO.out
        rw [List.take_of_length_le (by have := HP.out.2.2.2.1; omega)] at hO
        obtain ⟨wm, rfl⟩ : ∃ x, x = wr := ⟨_, rfl⟩
        have HM := Lib.hid hO; clear hO HO
        have hbm2 : Below w.heap.size w wm := hb01.trans (hbl.mono (by omega))
        have hGm := HP.out.1.fresh hbl
        have g0 := hGm.cell 0 (v := .slice WA ws.length wc) rfl
        clear hGm
        go_wp2_with fail
        go_loopg [8, 9, 10, 11, 46] ws.length (fun gk v8 v9 v10 v11 v46 wr => ∃ i : Nat, i ≤ ws.length ∧ gk = ws.length - i ∧ v46 = .int .i64 i ∧ Hid (Hau.upto ws i) ∧ Below wm.heap.size wm wr)
        case atStart => exact ⟨0, by omega, rfl, rfl, (by unfold Hid; intro i hi; omega), Below.refl _ _⟩
        case round =>
          obtain ⟨k, hk, rfl, rfl, hup, hbr⟩ := hrel
          have hsr := hbr.size
          have hbr2 : Below w.heap.size w wr := hbm2.trans (hbr.mono (by omega))
          by_cases hlt : k < ws.length
          · obtain ⟨b, o, rfl, hb', hok', g1⟩ := (H.out.1.below (hbr2.mono hB)).u64H hlt
            have hlt2 : (k : Int) < (ws.length : Int) := by omega
            have hor := HM.out.kept (grownBy_below none hbr) (by simp)
            have hkey : keyOf Try.prog 3 (.int .i64 (k : Int)) = some (.int .i64 (k : Int)) := keyOf_int_mk Try.underlying3 (wf_i64H ⟨by omega, by omega⟩)
            have hstep : (pl.contains k || Hau.fits pl (Hau.wat ws k)) = true → Hau.upto ws (k + 1) := by
              intro h j hj
              by_cases hji : j = k
              · subst hji; rw [HP.out.2.2.1]; exact h
              · exact hup.out j (by omega)
            have hstop : (pl.contains k || Hau.fits pl (Hau.wat ws k)) = false → er = 3 := by
              intro h
              have := Hau.upto_no hlt (by rw [HP.out.2.2.1]; exact h)
              rw [← HP.out.2.2.2.2.1, if_pos this]
            obtain ⟨x, hx⟩ : ∃ x, Hau.wat ws k = x := ⟨_, rfl⟩
            rw [hx] at g1 hstep hstop hok'
            have hh : Maps.has (setI (ints pl)) (.int .i64 (k : Int)) = pl.contains k := by rw [has_setI, ints_contains]
            obtain ⟨r, hr⟩ : ∃ r, pl.contains k = r := ⟨_, rfl⟩
            rw [hr] at hh hstep hstop
            obtain ⟨u, hu⟩ : ∃ r, Hau.fits pl x = r := ⟨_, rfl⟩
            have hfit := fun W (h : W.ownsMap Try.prog 3 unitElem w1.heap.size i (setI (ints pl))) => right_any x w1.heap.size i pl W hok' h
            rw [hu] at hfit hstep hstop
            have HS := Lib.hid (And.intro hor (And.intro hkey (And.intro hfit (And.intro hstep hstop)))); clear hor hkey hfit hstep hstop hok' hr hu hx
            cases r
            · go_wp2_with (first | (at_lookup; refine wpList_lookup_own_unit _ rfl _ _ 166 rfl 3 167 lawIntH Try.underlying166 (zeroUnitH _) w1.heap.size i _ rfl HS.out.1 _ _ rfl HS.out.2.1 ?_) | fail)
              refine calls_world (fun W => Below wr.heap.size wr W) ((Below.refl _ _).alloc (Nat.le_refl _) _) ?_
              intro W hbW
              have hsW := hbW.size
              refine (HS.out.2.2.1 W (HS.out.1.kept (grownBy_below none hbW) (by simp))).mono ?_
              rintro e w3 ⟨rfl, hb3⟩
              have hbl3 : Below wm.heap.size wm w3 := hbr.trans ((hbW.trans (hb3.mono hsW)).mono hsr)
              cases u
              · have he := HS.out.2.2.2.2 rfl
                subst he
                clear HS
                go_wp2_with fail
                go_returns
                exact ⟨rfl, hbm2.trans (hbl3.mono (by omega))⟩
              · have hup2 := Lib.hid (HS.out.2.2.2.1 rfl)
                clear HS
                go_wp2_with fail
                go_roundg (ws.length - (k + 1))
                case measure => omega
                case rel => exact ⟨k + 1, by omega, rfl, by go_num, hup2, hbl3⟩
            · have hup2 := Lib.hid (HS.out.2.2.2.1 rfl)
              go_wp2_with (first | (at_lookup; refine wpList_lookup_own_unit _ rfl _ _ 166 rfl 3 167 lawIntH Try.underlying166 (zeroUnitH _) w1.heap.size i _ rfl HS.out.1 _ _ rfl HS.out.2.1 ?_) | fail)
              clear HS
              go_roundg (ws.length - (k + 1))
              case measure => omega
              case rel => exact ⟨k + 1, by omega, rfl, by go_num, hup2, hbr.alloc hsr _⟩
          · obtain rfl : k = ws.length := by omega
            have hwo := Hau.upto_ok hup.out
            have her := HP.out.2.2.2.2.1
            rw [hwo, if_neg (by decide)] at her
            have hGr := (HP.out.1.fresh hbl).fresh hbr
            have g1 := hGr.cell 1 (v := .slice RA roots.length rc) rfl
            have HR := Lib.hid her; clear her hwo hup hGr
            obtain ⟨wo, rfl⟩ : ∃ x, x = wr := ⟨_, rfl⟩
            go_wp2_with fail
            go_loopg [13, 69] roots.length (fun gk v13 v69 wr => ∃ i : Nat, i ≤ roots.length ∧ gk = roots.length - i ∧ v69 = .int .i64 i ∧ Hid (Hau.rupto ws roots i) ∧ Below wo.heap.size wo wr)
            case atStart => exact ⟨0, by omega, rfl, rfl, (by unfold Hid; intro x hx; simp at hx), Below.refl _ _⟩
            case round =>
              obtain ⟨j, hj, rfl, rfl, hup, hbq⟩ := hrel
              have hsq := hbq.size
              have hbq2 : Below wm.heap.size wm wr := hbr.trans (hbq.mono (by omega))
              have hbq3 : Below w.heap.size w wr := hbm2.trans (hbq2.mono (by omega))
              by_cases hlt : j < roots.length
              · obtain ⟨b, o, rfl, hb', hok', g2⟩ := (H.out.2.1.below (hbq3.mono hB)).u64H hlt
                have hlt2 : (j : Int) < (roots.length : Int) := by omega
                have hor := HM.out.kept (grownBy_below none hbq2) (by simp)
                have hfit := right_any (Hau.wat roots j) w1.heap.size i pl wr hok' hor
                have hstep : Hau.fits pl (Hau.wat roots j) = true → Hau.rupto ws roots (j + 1) := by
                  intro h
                  exact Hau.rupto_next hlt hup.out (by rw [HP.out.2.2.1]; exact h)
                have hstop : Hau.fits pl (Hau.wat roots j) = false → er = 3 := by
                  intro h
                  have := Hau.rupto_no hlt (by rw [HP.out.2.2.1]; exact h)
                  rw [← HR.out, if_pos this]
                obtain ⟨x, hx⟩ : ∃ x, Hau.wat roots j = x := ⟨_, rfl⟩
                rw [hx] at g2 hstep hstop hfit
                obtain ⟨u, hu⟩ : ∃ r, Hau.fits pl x = r := ⟨_, rfl⟩
                rw [hu] at hfit hstep hstop
                have HS := Lib.hid (And.intro hfit (And.intro hstep hstop)); clear hfit hstep hstop hok' hu hx hor
                go_wp2_with fail
                refine HS.out.1.mono ?_
                rintro e w3 ⟨rfl, hb4⟩
                have hbm3 : Below wo.heap.size wo w3 := hbq.trans (hb4.mono (by omega))
                cases u
                · have he := HS.out.2.2 rfl
                  subst he
                  clear HS
                  go_wp2_with fail
                  go_returns
                  exact ⟨rfl, hbr2.trans (hbm3.mono (by omega))⟩
                · have hup2 := Lib.hid (HS.out.2.1 rfl)
                  clear HS
                  go_wp2_with fail
                  go_roundg (roots.length - (j + 1))
                  case measure => omega
                  case rel => exact ⟨j + 1, by omega, rfl, by go_num, hup2, hbm3⟩
              · obtain rfl : j = roots.length := by omega
                have hro := Hau.rupto_ok hup.out
                have her := HR.out
                rw [hro, if_neg (by decide)] at her
                subst her
                clear hro hup
                go_wp2_with fail
                go_returns
                exact ⟨rfl, hbq3⟩
  · have hok : Hau.okW ws = false := by simpa using hok
    have he : er = 3 := by rw [← HE.out, if_pos hok]
    subst he
    rw [hok]
    clear hok hG1
    go_wp2_with fail
    go_returns
    exact ⟨rfl, hb01⟩

end Go.Proofs.Ytpkccpegdpodoaa

/- haul.Objects; (*haul.collector).moved. -/
namespace Go.Proofs.Ytpkccpegdpodoaa
open Go.RowKit Go.Maps

attribute [local go_sem ↓] Go.wp_at_zero Go.wp_at_succ

def HObPost (er : Int) (ws : List U64) (w : World) (e : Ending) (w' : World) : Prop := Below w.heap.size w w' ∧
  ((er = 0 ∧ ∃ OA oc, e = .returned (.tuple #[.slice OA (Hau.places ws).length oc, .int .i64 0]) ∧ Own w' w.heap.size 3 OA oc (ints (Hau.places ws))) ∨ (er ≠ 0 ∧ e = .returned (.tuple #[.slice none 0 0, .int .i64 er])))

set_option maxHeartbeats 800000 in
set_option maxRecDepth 100000 in
theorem hObjects_any (B wc rc : Nat) (WA RA : Option Addr) (h : Hp) (w : World) (hh : HpAt w B h WA RA) (hB : B ≤ w.heap.size) :
    Calls Try.prog 38 #[.agg #[.slice WA h.words.length wc, .slice RA h.roots.length rc]] w (HObPost (Hau.heapErr h) h.words w) := by
  have H := Lib.hid hh; clear hh
  obtain ⟨er, her⟩ : ∃ e, Hau.heapErr h = e := ⟨_, rfl⟩
  rw [her]
  go_enter Try.func38, Try.ntmps38
  go_wp2_with fail
  refine calls_world (fun W => Blk W w.heap.size 70 #[.slice WA h.words.length wc, .slice RA h.roots.length rc] ∧ Below w.heap.size w W ∧ w.heap.size + 1 ≤ W.heap.size) ⟨Blk.new _ _ _, (Below.refl _ _).alloc (Nat.le_refl _) _, by simp⟩ ?_
  rintro W ⟨hG, hb0, hs0⟩
  have hc := hcheck_any B wc rc WA RA h W ⟨H.out.1.below (hb0.mono hB), H.out.2.below (hb0.mono hB)⟩ (by omega)
  rw [her] at hc
  refine hc.mono ?_
  rintro e w1 ⟨rfl, hb1⟩
  have hs1 := hb1.size
  have hb01 : Below w.heap.size w w1 := hb0.trans (hb1.mono (by omega))
  have hG1 := hG.fresh hb1
  clear hc hG hb0
  by_cases he : er = 0
  · subst he
    have hl : h.words.length ≤ 2000 := by
      unfold Hau.heapErr at her
      split at her
      · cases her
      · rename_i hx; omega
    have hok : Hau.okW h.words = true := by
      unfold Hau.heapErr at her
      split at her
      · cases her
      · split at her
        · cases her
        · rename_i hx; simpa using hx
    have g0 := hG1.cell 0 (v := .slice WA h.words.length wc) rfl
    have hO := objects_any B wc WA h.words w1 (H.out.1.below (hb01.mono hB)) (by omega) hl
    have HO := Lib.hid (And.intro hO hok); clear hO hok her hG1
    go_wp2_with fail
    refine HO.out.1.mono ?_
    rintro e w2 ⟨OA, oc, rfl, ho, hb2⟩
    have hOwn := Lib.hid (ho.base_le (show w.heap.size ≤ w1.heap.size by omega)); clear ho
    go_wp2_with fail
    go_returns
    exact ⟨hb01.trans (hb2.mono (by omega)), .inl ⟨rfl, OA, oc, rfl, hOwn.out⟩⟩
  · have hd : (er != 0) = true := by simpa using he
    have HE := Lib.hid he; clear he her hG1
    go_wp2_with fail
    go_returns
    exact ⟨hb01, .inr ⟨HE.out, rfl⟩⟩

theorem own_ne_map {α H : Type} [Flat α] {P : Program} {w : World} {base : Nat} {e k : TypeId} {A : Option Addr} {c : Nat} {l : List α} {R : Value → Option (DataW H × List MemPlace)} {b n : Nat} {D : DataW H} (h : Own w base e A c l) (hm : w.ownsMap P k R b n D) : rowOf A ≠ some b := by
  intro hA
  obtain ⟨es, clock, hb, _⟩ := hm
  rcases h.2 with ⟨h1, _⟩ | ⟨g', cap, cur, hv, _, hh, _⟩
  · injection h1 with h3; rw [h3] at hA; cases hA
  · injection hv with h3; rw [h3] at hA; injection hA with hA; simp only at hA; subst hA
    rw [hh] at hb; injection hb with hb; cases hb
theorem blk_ne_map {H : Type} {P : Program} {w : World} {g : Nat} {t k : TypeId} {cs : Array Value} {R : Value → Option (DataW H × List MemPlace)} {b n : Nat} {D : DataW H} (h : Blk w g t cs) (hm : w.ownsMap P k R b n D) : g ≠ b := by
  intro hA
  subst hA
  obtain ⟨es, clock, hb, _⟩ := hm
  unfold Blk at h
  rw [h] at hb; injection hb with hb; cases hb

def Hau.mv (ws : List U64) (F : List Nat) : List (Int × Int) := (Hau.cum ws 0 F).map fun m => ((m.1 : Int), (m.2 : Int))
theorem Hau.mv_length (ws : List U64) (F : List Nat) : (Hau.mv ws F).length = F.length := by unfold Hau.mv; rw [List.length_map, Hau.cum_length]
theorem Hau.mv_snoc (ws : List U64) (F : List Nat) (p : Nat) : Hau.mv ws (F ++ [p]) = Hau.mv ws F ++ [((((F.map (Hau.sz ws)).sum : Nat) : Int), (p : Int))] := by
  unfold Hau.mv; rw [Hau.cum_append, List.map_append]; simp [Hau.cum]

theorem Hau.posOf_le (ws : List U64) (F : List Nat) (p : Nat) : Hau.posOf ws F p ≤ (F.map (Hau.sz ws)).sum := by
  unfold Hau.posOf
  induction F with
  | nil => simp
  | cons q F ih =>
    rw [List.takeWhile_cons]
    split
    · simp only [List.map_cons, List.sum_cons]; omega
    · simp
theorem Hau.refW_ok (t : Nat) (h : t < 4294967296) : I64 5 ∧ I64 (t : Int) := by unfold I64; omega
theorem at_takeH {α : Type} [Enc α] {w : World} {B : Nat} {A : Option Addr} {l : List α} (h : At w B A l) (n : Nat) : At w B A (l.take n) := fun i x hx => by
  rw [List.getElem?_take] at hx
  split at hx
  · exact h i x hx
  · cases hx
/-- a collector: where it lies, what it owns -/
def Hau.Coll (w : World) (Z CB MB wc tc lc : Nat) (WA TA LA : Option Addr) (ws T : List U64) (F : List Nat) : Prop :=
  Blk w CB 164 #[.slice WA ws.length wc, .slice TA T.length tc, .map (some MB), .slice LA F.length lc] ∧ Own w Z 24 TA tc T ∧ Own w Z 82 LA lc (Hau.mv ws F) ∧
    w.ownsMap Try.prog 3 (plainElem (H := Unit) Try.prog 3) MB F.length (Hau.mapD ws F) ∧ Z ≤ CB ∧ Z ≤ MB
/-- all but the collector's own blocks stays -/
def Hau.Keep (w w' : World) (CB MB : Nat) (TA LA : Option Addr) : Prop := ∀ g, g < w.heap.size → g ≠ CB → g ≠ MB → rowOf TA ≠ some g → rowOf LA ≠ some g → w'.heap[g]? = w.heap[g]?
theorem Hau.Coll.fresh {w w' : World} {Z CB MB wc tc lc : Nat} {WA TA LA : Option Addr} {ws T : List U64} {F : List Nat} (h : Hau.Coll w Z CB MB wc tc lc WA TA LA ws T F) (hb : Below w.heap.size w w') : Hau.Coll w' Z CB MB wc tc lc WA TA LA ws T F :=
  ⟨h.1.fresh hb, h.2.1.fresh hb, h.2.2.1.fresh hb, h.2.2.2.1.kept (grownBy_below none hb) (by simp), h.2.2.2.2⟩
theorem Hau.Keep.fresh {w w' : World} {CB MB : Nat} {TA LA : Option Addr} (hb : Below w.heap.size w w') : Hau.Keep w w' CB MB TA LA := fun g hg _ _ _ _ => hb.block g hg
theorem Hau.Keep.trans {w w1 w2 : World} {CB MB : Nat} {TA LA : Option Addr} (h : Hau.Keep w w1 CB MB TA LA) (hs : w.heap.size ≤ w1.heap.size) (h' : Hau.Keep w1 w2 CB MB TA LA) : Hau.Keep w w2 CB MB TA LA :=
  fun g hg h1 h2 h3 h4 => (h' g (by omega) h1 h2 h3 h4).trans (h g hg h1 h2 h3 h4)

theorem moved_end {w W w6 : World} {Z CB MB wc tc c3 c6 q p : Nat} {WA TA LA A3 A6 : Option Addr} {ws T : List U64} {F : List Nat}
    (_h1 : Blk W CB 164 #[.slice WA ws.length wc, .slice TA T.length tc, .map (some MB), .slice A3 (F.length + 1) c3]) (h2 : Own W Z 24 TA tc T) (h3 : Own W Z 82 A3 c3 (Hau.mv ws F ++ [((T.length : Int), (p : Int))]))
    (h4 : W.ownsMap Try.prog 3 (plainElem (H := Unit) Try.prog 3) MB (F.length + 1) ((Hau.mapD ws F).put (.int .i64 (p : Int)) (.lit (.int .i64 (T.length : Int))))) (h5 : Below Z w W) (h6 : Hau.Keep w W CB MB TA LA) (hC : Z ≤ CB) (hM : Z ≤ MB)
    (n1 : Blk w6 CB 164 #[.slice WA ws.length wc, .slice TA T.length tc, .map (some MB), .slice A3 (F.length + 1) c3]) (n2 : Own w6 Z 24 A6 c6 (T ++ Hau.obj ws p)) (hg : W.drew.grownBy w6 (rowOf TA)) (ha : rowOf A6 = rowOf TA ∨ rowOf A6 = some W.drew.heap.size) (hb : Below Z W w6)
    (hrw : Hau.raw ws [p] = Hau.obj ws p) (hol : (Hau.obj ws p).length = 1 + q) (hmd : Hau.mapD ws (F ++ [p]) = (Hau.mapD ws F).put (.int .i64 (p : Int)) (.lit (.int .i64 (T.length : Int)))) (hmv : Hau.mv ws (F ++ [p]) = Hau.mv ws F ++ [((T.length : Int), (p : Int))]) :
    Hau.Coll (w6.setCell ⟨CB, 1, none⟩ (.slice A6 (T.length + (1 + q)) c6)) Z CB MB wc c6 c3 WA A6 A3 ws (T ++ Hau.raw ws [p]) (F ++ [p]) ∧ Below Z w (w6.setCell ⟨CB, 1, none⟩ (.slice A6 (T.length + (1 + q)) c6)) ∧ (rowOf A6 = rowOf TA ∨ ∃ g, rowOf A6 = some g ∧ w.heap.size ≤ g) ∧
      Hau.Keep w (w6.setCell ⟨CB, 1, none⟩ (.slice A6 (T.length + (1 + q)) c6)) CB MB TA LA := by
  have hs := h5.size
  have k3 : Own w6 Z 82 A3 c3 (Hau.mv ws F ++ [((T.length : Int), (p : Int))]) := h3.drew.grown hg (fun g hg e => own_own_ty h3 h2 (by decide) g hg e)
  have k4 := (h4.drew).kept hg (fun e => own_ne_map h2 h4 e.symm)
  refine ⟨⟨?_, ?_, ?_, ?_, hC, hM⟩, (h5.trans hb).setCell hC _, ?_, fun g hl g1 g2 g3 g4 => (Below.heap_setCell w6 _ _ g g1).trans ((hg.block g (by show g < W.heap.size; omega) (fun e => g3 e.symm)).trans (h6 g hl g1 g2 g3 g4))⟩
  · have := n1.set_ 1 (.slice A6 (T.length + (1 + q)) c6)
    rw [hrw, List.length_append, List.length_append, hol]
    simpa using this
  · rw [hrw]; exact n2.setCell _ _ (own_ne_ty n2 n1 (by decide))
  · rw [hmv]; exact k3.setCell _ _ (own_ne_ty k3 n1 (by decide))
  · rw [hmd, List.length_append]; exact k4.setCell (fun e => blk_ne_map n1 k4 e.symm) _
  · rcases ha with h | h
    · exact .inl h
    · exact .inr ⟨_, h, hs⟩

def HmPost (Z CB MB wc : Nat) (WA TA LA : Option Addr) (ws T : List U64) (F : List Nat) (x : U64) (w : World) (e : Ending) (w' : World) : Prop :=
  Below Z w w' ∧ ∃ (X : List Nat) (TA' : Option Addr) (tc' : Nat) (LA' : Option Addr) (lc' : Nat), Hau.addW F x = F ++ X ∧ e = .returned (.int .u64 (Hau.trn ws (F ++ X) x).val) ∧
    Hau.Coll w' Z CB MB wc tc' lc' WA TA' LA' ws (T ++ Hau.raw ws X) (F ++ X) ∧ (rowOf TA' = rowOf TA ∨ ∃ g, rowOf TA' = some g ∧ w.heap.size ≤ g) ∧ Hau.Keep w w' CB MB TA LA

set_option maxHeartbeats 1600000 in
set_option maxRecDepth 100000 in
theorem hmoved_any (B Z CB MB wc tc lc : Nat) (WA TA LA : Option Addr) (ws T : List U64) (F : List Nat) (x : U64) (w : World) (hx : Flat.ok x) (hw : At w B WA ws) (hBZ : B ≤ Z) (hc : Hau.Coll w Z CB MB wc tc lc WA TA LA ws T F)
    (hwc : ws.length ≤ wc) (hl : ws.length ≤ 2000) (hok : Hau.okW ws = true) (hF : F.Nodup) (hFp : ∀ p ∈ F, p ∈ Hau.places ws) (hfx : Hau.fits (Hau.places ws) x = true) (hT : T.length = (F.map (Hau.sz ws)).sum) :
    Calls Try.prog 112 #[.pointer (some ⟨CB, 0, none⟩), .int .u64 x.val] w (HmPost Z CB MB wc WA TA LA ws T F x w) := by
  have hcl := hc.1.lt
  have hcz := hc.2.2.2.2.1
  have hZw : Z ≤ w.heap.size := by omega
  have H := Lib.hid (And.intro hx (And.intro hw (And.intro hc (And.intro hok (And.intro hF (And.intro hFp (And.intro hfx hT))))))); clear hx hw hc hok hF hFp hfx hT
  go_enter Try.func112, Try.ntmps112
  go_wp2_with fail
  refine (place_any x w H.out.1).mono ?_
  rintro e w1 ⟨n, rfl, hn, hb1⟩
  have hs1 := hb1.size
  cases hr : Hau.refOf x with
  | none =>
    have ha : Hau.addW F x = F := by unfold Hau.addW; rw [hr]
    have ht : Hau.trn ws F x = x := by unfold Hau.trn; rw [hr]
    have HA := Lib.hid (And.intro ha ht); clear ha ht hn hr
    go_wp2_with fail
    go_returns
    refine ⟨hb1.mono hZw, [], TA, tc, LA, lc, by rw [HA.out.1, List.append_nil], by rw [List.append_nil, HA.out.2]; rfl, ?_, .inl rfl, Hau.Keep.fresh hb1⟩
    have h := H.out.2.2.1.fresh hb1
    rw [List.append_nil, show Hau.raw ws [] = [] from rfl, List.append_nil]
    exact h
  | some p =>
    have hnp := hn p hr
    subst hnp
    have hpp := Hau.fits_ref H.out.2.2.2.2.2.2.1 hr
    have hC1 := H.out.2.2.1.fresh hb1
    have c2 := hC1.1.cell 2 (v := .map (some MB)) rfl
    have hpl := Hau.places_lt ws p hpp
    have hkey : keyOf Try.prog 3 (.int .i64 (p : Int)) = some (.int .i64 (p : Int)) := keyOf_int_mk Try.underlying3 (wf_i64H ⟨by omega, by omega⟩)
    have hmd := Hau.mapD_spec ws p F.length F rfl H.out.2.2.2.2.1
    simp only [Option.isSome_some]
    by_cases hpF : p ∈ F
    · have hh : Maps.has (Hau.mapD ws F) (.int .i64 (p : Int)) = true := by rw [hmd.1]; exact List.contains_iff_mem.2 hpF
      have hat0 := hmd.2 hpF (.lit (.int .i64 0))
      have ha : Hau.addW F x = F := by unfold Hau.addW; rw [hr]; exact if_pos (List.contains_iff_mem.2 hpF)
      have ht : Hau.trn ws F x = Hau.refW (Hau.posOf ws F p) := by unfold Hau.trn; rw [hr]
      have hps : (F.map (Hau.sz ws)).sum ≤ ws.length := by
        have := Hau.sum_sub (Hau.sz ws) F (Hau.places ws) H.out.2.2.2.2.1 H.out.2.2.2.2.2.1
        rw [(Hau.places_spec H.out.2.2.2.1).2.2] at this; exact this
      have hpo := Hau.posOf_le ws F p
      have HM := Lib.hid (And.intro hkey (And.intro hat0 (And.intro ha (And.intro ht hC1)))); clear hkey hat0 ha ht hC1 hmd hn hr hpp hpF
      go_wp2_with (first | (at_lookup; refine wpList_lookup_own_ok_int _ rfl _ _ 162 rfl 3 3 .i64 lawIntH Try.underlying162 Try.underlying3 (zeroIntH _) MB F.length _ rfl HM.out.2.2.2.2.2.2.2.1 _ _ rfl HM.out.1 ?_; intro c hat hwf) | fail)
      have hce : c = (Hau.posOf ws F p : Int) := by
        have := hat.symm.trans HM.out.2.1
        injection this with this
        injection this
      refine (box_any 5 c w1 (by unfold I64; omega) (by unfold I64; omega)).mono ?_
      rintro e w2 ⟨rfl, hb2⟩
      have hb12 : Below w.heap.size w w2 := hb1.trans (hb2.mono hs1)
      have HC := Lib.hid hce; clear hce hat hwf
      go_wp2_with fail
      go_returns
      refine ⟨hb12.mono hZw, [], TA, tc, LA, lc, by rw [HM.out.2.2.1, List.append_nil], by rw [List.append_nil, HM.out.2.2.2.1, HC.out]; rfl, ?_, .inl rfl, Hau.Keep.fresh hb12⟩
      have h := H.out.2.2.1.fresh hb12
      rw [List.append_nil, show Hau.raw ws [] = [] from rfl, List.append_nil]
      exact h
    · have hh : Maps.has (Hau.mapD ws F) (.int .i64 (p : Int)) = false := by rw [hmd.1]; rw [Bool.eq_false_iff]; intro h; exact hpF (List.contains_iff_mem.1 h)
      obtain ⟨i0, hi, hz0, hz1, hz2⟩ := info_partsH infoRMoveH
      have c1 := hC1.1.cell 1 (v := .slice TA T.length tc) rfl
      have ha : Hau.addW F x = F ++ [p] := by unfold Hau.addW; rw [hr]; exact if_neg (fun h => hpF (List.contains_iff_mem.1 h))
      have ht : Hau.trn ws (F ++ [p]) x = Hau.refW T.length := by
        unfold Hau.trn; rw [hr]
        show Hau.refW (Hau.posOf ws (F ++ [p]) p) = _
        unfold Hau.posOf
        rw [List.takeWhile_append_of_pos (by intro u hu; simp only [bne_iff_ne, ne_eq]; intro e; subst e; exact hpF hu), List.takeWhile_cons]
        simp [H.out.2.2.2.2.2.2.2]
      have hnd : (F ++ [p]).Nodup := by rw [← ha]; exact Hau.addW_nodup H.out.2.2.2.2.1
      have hsub : ∀ q ∈ F ++ [p], q ∈ Hau.places ws := by rw [← ha]; exact Hau.addW_sub H.out.2.2.2.2.2.1 H.out.2.2.2.2.2.2.1
      have hsp := Hau.places_spec H.out.2.2.2.1
      have hps : ((F ++ [p]).map (Hau.sz ws)).sum ≤ ws.length := by
        have := Hau.sum_sub (Hau.sz ws) (F ++ [p]) (Hau.places ws) hnd hsub
        rw [hsp.2.2] at this; exact this
      have hFl : F.length + 1 ≤ ws.length := by
        have h1 : (F ++ [p]).length ≤ ((F ++ [p]).map (Hau.sz ws)).sum := by
          have key : ∀ G : List Nat, G.length ≤ (G.map (Hau.sz ws)).sum := by
            intro G
            induction G with
            | nil => simp
            | cons g G ih => have := Hau.sz_pos ws g; simp only [List.length_cons, List.map_cons, List.sum_cons]; omega
          exact key _
        rw [List.length_append] at h1
        simp only [List.length_singleton] at h1
        omega
      have hTl : T.length + Hau.sz ws p ≤ ws.length := by
        rw [List.map_append, List.sum_append] at hps
        rw [H.out.2.2.2.2.2.2.2]
        simpa using hps
      have hpe := hsp.1 p hpp
      have hrw : Hau.raw ws [p] = Hau.obj ws p := by unfold Hau.raw; simp
      have hmdn := Hau.mapD_snoc ws F p
      have hmvn := Hau.mv_snoc ws F p
      rw [← H.out.2.2.2.2.2.2.2] at hmdn hmvn
      have hwfT : (Lit.int .i64 (T.length : Int)).wf = true := wf_i64H ⟨by omega, by omega⟩
      have HM := Lib.hid (And.intro hkey (And.intro hC1 (And.intro hwfT (And.intro ha (And.intro ht (And.intro hrw (And.intro hmdn hmvn))))))); clear hkey hmd hn hr hpp hC1 hwfT ha ht hnd hsub hsp hps hrw hmdn hmvn
      have HMV := Lib.hid (Hau.mv_length ws F)
      go_wp2_with (first
        | (at_lookup; refine wpList_lookup_own_ok_int _ rfl _ _ 162 rfl 3 3 .i64 lawIntH Try.underlying162 Try.underlying3 (zeroIntH _) MB F.length _ rfl HM.out.2.1.2.2.2.1 _ _ rfl HM.out.1 ?_; intro c hat hwf)
        | (at_mapUpdate; refine wpList_mapUpdate_own _ rfl _ _ _ 162 rfl 3 3 lawIntH Try.underlying162 (plainElem (H := Unit) Try.prog 3) MB F.length _ rfl HM.out.2.1.2.2.2.1 (by unfold maxLen; omega) _ _ _ rfl rfl HM.out.1 _ [] (plainElem_int Try.underlying3 HM.out.2.2.1) ?_; intro w2 hown2 hgr2; have c3 := (HM.out.2.1.1.grown hgr2 (fun e => blk_ne_map HM.out.2.1.1 HM.out.2.1.2.2.2.1 (by injection e with e; exact e.symm))).cell 3 (v := .slice LA F.length lc) rfl)
        | (at_builtin; go_must (refine wpList_app (α := Int × Int) (n := F.length) (m := 1) (B := w2.heap.size + 1) (r := [((T.length : Int), (p : Int))]) rfl (.tmp 45) (.tmp 49) _ rfl Z 82 i0 _ 16 Try.underlying73 hi hz0 hz1 hz2 rfl (by decide) pair_oneH (by rfl) HMV.out ((HM.out.2.1.2.2.1.grown hgr2 (fun g hg e => own_ne_map HM.out.2.1.2.2.1 HM.out.2.1.2.2.2.1 (by rw [hg]; exact e.symm))).alloc _) (by rfl) ?_ rfl (by omega) (by simp only [maxLen]; omega) (by have := hgr2.size; simp; omega) ?_)))
      · have := At.built w2 #[.int .i64 (T.length : Int), .int .i64 (p : Int)] 82 [((T.length : Int), (p : Int))] rfl (by intro z hz; simp at hz; subst hz; exact ⟨by show I64 _; unfold I64; omega, by show I64 _; unfold I64; omega⟩)
        simpa using this
      intro A3 c3' w3 hown3 hgr3 hat3
      have hs2 := hgr2.size
      have hs3 := hgr3.size
      simp only [World.size_alloc] at hs3
      have k1 := HM.out.2.1.1.grown hgr2 (fun e => blk_ne_map HM.out.2.1.1 HM.out.2.1.2.2.2.1 (by injection e with e; exact e.symm))
      have k2 := HM.out.2.1.2.1.grown hgr2 (fun g hg e => own_ne_map HM.out.2.1.2.1 HM.out.2.1.2.2.2.1 (by rw [hg]; exact e.symm))
      have k3 := HM.out.2.1.2.2.1.grown hgr2 (fun g hg e => own_ne_map HM.out.2.1.2.2.1 HM.out.2.1.2.2.2.1 (by rw [hg]; exact e.symm))
      have m1 := (k1.alloc (.cells #[.int .i64 (T.length : Int), .int .i64 (p : Int)] 82)).grown hgr3 (fun e => own_ne_ty k3 k1 (by decide) e)
      have m2 := (k2.alloc (.cells #[.int .i64 (T.length : Int), .int .i64 (p : Int)] 82)).grown hgr3 (fun g hg e => own_own_ty k2 k3 (by decide) g hg e)
      have m4 := (hown2.alloc (.cells #[.int .i64 (T.length : Int), .int .i64 (p : Int)] 82)).kept hgr3 (fun e => own_ne_map k3 hown2 e.symm)
      have b2 : Below Z w w2 := (hb1.mono hZw).grown hgr2 (by omega) (fun g hg => by injection hg with hg; subst hg; exact H.out.2.2.1.2.2.2.2.2)
      have b3 : Below Z w w3 := (b2.alloc (by omega) (.cells #[.int .i64 (T.length : Int), .int .i64 (p : Int)] 82)).grown hgr3 (by simp; omega) (fun g hg => (k3.lt g hg).1)
      have kp3 : Hau.Keep w w3 CB MB TA LA := fun g hg h1 h2 h3 h4 => (hgr3.block g (by simp; omega) (fun e => h4 e.symm)).trans ((Below.heap_alloc w2 _ g (by omega)).trans ((hgr2.block g (by omega) (fun e => h2 (by injection e))).trans (hb1.block g hg)))
      have c3b := m1.cell 3 (v := .slice LA F.length lc) rfl
      have z3b := m1.frozen 3
      have m1' := m1.set_ 3 (.slice A3 (F.length + 1) c3')
      have m2' := m2.setCell ⟨CB, 3, none⟩ (.slice A3 (F.length + 1) c3') (own_ne_ty m2 m1 (by decide))
      have m3' := hown3.setCell ⟨CB, 3, none⟩ (.slice A3 (F.length + 1) c3') (own_ne_ty hown3 m1 (by decide))
      have m4' := m4.setCell (a := ⟨CB, 3, none⟩) (fun e => blk_ne_map m1 m4 e.symm) (.slice A3 (F.length + 1) c3')
      have b4 := b3.setCell (p := ⟨CB, 3, none⟩) hcz (.slice A3 (F.length + 1) c3')
      have kp4 : Hau.Keep w (w3.setCell ⟨CB, 3, none⟩ (.slice A3 (F.length + 1) c3')) CB MB TA LA := fun g hg h1 h2 h3 h4 => (Below.heap_setCell w3 _ _ g h1).trans (kp3 g hg h1 h2 h3 h4)
      have HK := Lib.hid (And.intro m1' (And.intro m2' (And.intro m3' (And.intro m4' (And.intro b4 kp4))))); clear m1 m2 m4 m1' m2' m3' m4' b3 b4 b2 kp3 kp4 k1 k2 k3 hown2 hown3 hgr2 hgr3 hat3 hat hwf c1 c2 c3 hh
      go_upto_region 9 with fail
      refine wp_world (fun W => Hid (Blk W CB 164 #[.slice WA ws.length wc, .slice TA T.length tc, .map (some MB), .slice A3 (F.length + 1) c3'] ∧ Own W Z 24 TA tc T ∧ Own W Z 82 A3 c3' (Hau.mv ws F ++ [((T.length : Int), (p : Int))]) ∧ W.ownsMap Try.prog 3 (plainElem (H := Unit) Try.prog 3) MB (F.length + 1) ((Hau.mapD ws F).put (.int .i64 (p : Int)) (.lit (.int .i64 (T.length : Int)))) ∧ Below Z w W ∧ Hau.Keep w W CB MB TA LA)) (by unfold Hid; exact HK.out) ?_
      intro W HW
      clear HK
      have hsW := HW.out.2.2.2.2.1.size
      obtain ⟨b, o, rfl, hbB, hoky, q0⟩ := (H.out.2.1.below (HW.out.2.2.2.2.1.mono hBZ)).u64H hpl
      obtain ⟨y, hy⟩ : ∃ y, Hau.wat ws p = y := ⟨_, rfl⟩
      have hsy : Hau.sz ws p = 1 + Hau.lg y := by unfold Hau.sz; rw [hy]
      rw [hy] at q0 hoky
      rw [hsy] at hpe hTl
      obtain ⟨q, hq⟩ : ∃ q, Hau.lg y = q := ⟨_, rfl⟩
      rw [hq] at hsy hpe hTl
      have hlg := fun V => hlong_any y V hoky
      rw [hq] at hlg
      have hw1 : IntKind.i64.wrap ((p : Int) + 1) = (p : Int) + 1 := IntWalk.i64_in _ (by omega)
      obtain ⟨r, hr⟩ : ∃ r, p + 1 + q = r := ⟨_, rfl⟩
      have hw2 : IntKind.i64.wrap ((p : Int) + 1 + (q : Int)) = (r : Int) := by rw [IntWalk.i64_in _ (by omega)]; omega
      have hr1 : (r : Int) ≤ (wc : Int) := by omega
      have hr2 : p ≤ r := by omega
      have hr3 : r - p = 1 + q := by omega
      have hr4 : ¬ wc = p := by omega
      obtain ⟨j0, hj, hy0, hy1, hy2⟩ := info_partsH infoU64H
      have hsrc : At W B (some ⟨b, o + p, none⟩) (Hau.obj ws p) := by
        have := at_takeH ((H.out.2.1.below (HW.out.2.2.2.2.1.mono hBZ)).drop_ p) (Hau.sz ws p)
        rwa [show p * Enc.sz U64 = p from Nat.mul_one p] at this
      have hol : (Hau.obj ws p).length = 1 + q := by rw [Hau.obj_length (by rw [hsy]; exact hpe), hsy]
      have HSRC := Lib.hid (And.intro hsrc hol); clear hsrc hol
      have g0 := HW.out.1.cell 0 (v := .slice (some ⟨b, o, none⟩) ws.length wc) rfl
      have g1 := HW.out.1.cell 1 (v := .slice TA T.length tc) rfl
      have hp0 : (0 : Int) ≤ (p : Int) := by omega
      have hp1 : (p : Int) < (ws.length : Int) := by omega
      have HY := Lib.hid (And.intro hlg (And.intro hsy hoky)); clear hlg hsy hoky hy hq
      refine wp_region_held_drew (S := (fun w' => w'.cell? ⟨CB, 0, none⟩ = some (.slice (some ⟨b, o, none⟩) ws.length wc) ∧ w'.cell? ⟨b, o + p, none⟩ = some (.int .u64 y.val))) (by kernel_rfl) ?_ (fun hHeld0 => ?_)
      · first | trivial | ((try dsimp only); (exact ⟨g0, q0⟩))
      refine held_take (v := ?_) 0 rfl (by kernel_rfl) (by kernel_rfl) (by kernel_rfl) (fun _ _ _ h => h) (by rfl) ?_ (by assumption) ?_
      rotate_left
      · (intro w hSw; (try dsimp only at hSw); go_simp; try with_reducible rfl)
      try simp only [Act.put, List.setIfInBounds_toArray, List.set_cons_zero, List.set_cons_succ]
      refine held_take (v := ?_) 1 rfl (by kernel_rfl) (by kernel_rfl) (by kernel_rfl) (fun _ _ _ h => h) (by rfl) ?_ (by assumption) ?_
      rotate_left
      · (intro w hSw; (try dsimp only at hSw); go_simp; try with_reducible rfl)
      try simp only [Act.put, List.setIfInBounds_toArray, List.set_cons_zero, List.set_cons_succ]
      refine held_take (v := ?_) 2 rfl (by kernel_rfl) (by kernel_rfl) (by kernel_rfl) (fun _ _ _ h => h) (by rfl) ?_ (by assumption) ?_
      rotate_left
      · (intro w hSw; (try dsimp only at hSw); go_simp; try with_reducible rfl)
      try simp only [Act.put, List.setIfInBounds_toArray, List.set_cons_zero, List.set_cons_succ]
      refine held_take (v := ?_) 3 rfl (by kernel_rfl) (by kernel_rfl) (by kernel_rfl) (fun _ _ _ h => h) (by rfl) ?_ (by assumption) ?_
      rotate_left
      · (intro w hSw; (try dsimp only at hSw); go_simp; try with_reducible rfl)
      try simp only [Act.put, List.setIfInBounds_toArray, List.set_cons_zero, List.set_cons_succ]
      refine held_take (v := ?_) 5 rfl (by kernel_rfl) (by kernel_rfl) (by kernel_rfl) (fun _ _ _ h => h) (by rfl) ?_ (by assumption) ?_
      rotate_left
      · (intro w hSw; (try dsimp only at hSw); go_simp; try with_reducible rfl)
      try simp only [Act.put, List.setIfInBounds_toArray, List.set_cons_zero, List.set_cons_succ]
      refine held_take (v := ?_) 6 rfl (by kernel_rfl) (by kernel_rfl) (by kernel_rfl) (fun _ _ _ h => h) (by rfl) ?_ (by assumption) ?_
      rotate_left
      · (intro w hSw; (try dsimp only at hSw); go_simp; try with_reducible rfl)
      try simp only [Act.put, List.setIfInBounds_toArray, List.set_cons_zero, List.set_cons_succ]
      refine held_take (v := ?_) 7 rfl (by kernel_rfl) (by kernel_rfl) (by kernel_rfl) (fun _ _ _ h => h) (by rfl) ?_ (by assumption) ?_
      rotate_left
      · (intro w hSw; (try dsimp only at hSw); go_simp; try with_reducible rfl)
      try simp only [Act.put, List.setIfInBounds_toArray, List.set_cons_zero, List.set_cons_succ]
      refine held_take (v := ?_) 8 rfl (by kernel_rfl) (by kernel_rfl) (by kernel_rfl) (fun _ _ _ h => h) (by rfl) ?_ (by assumption) ?_
      rotate_left
      · (intro w hSw; (try dsimp only at hSw); go_simp; try with_reducible rfl)
      try simp only [Act.put, List.setIfInBounds_toArray, List.set_cons_zero, List.set_cons_succ]
      refine held_take (v := ?_) 9 rfl (by kernel_rfl) (by kernel_rfl) (by kernel_rfl) (fun _ _ _ h => h) (by rfl) ?_ (by assumption) ?_
      rotate_left
      · (intro w hSw; (try dsimp only at hSw); go_simp; try with_reducible rfl)
      try simp only [Act.put, List.setIfInBounds_toArray, List.set_cons_zero, List.set_cons_succ]
      refine held_take (v := ?_) 10 rfl (by kernel_rfl) (by kernel_rfl) (by kernel_rfl) (fun _ _ _ h => h) (by rfl) ?_ (by assumption) ?_
      rotate_left
      · (intro w hSw; (try dsimp only at hSw); go_simp; try with_reducible rfl)
      try simp only [Act.put, List.setIfInBounds_toArray, List.set_cons_zero, List.set_cons_succ]
      refine held_take (v := ?_) 11 rfl (by kernel_rfl) (by kernel_rfl) (by kernel_rfl) (fun _ _ _ h => h) (by rfl) ?_ (by assumption) ?_
      rotate_left
      · (intro w hSw; (try dsimp only at hSw); go_simp; try with_reducible rfl)
      try simp only [Act.put, List.setIfInBounds_toArray, List.set_cons_zero, List.set_cons_succ]
      refine held_take (v := ?_) 12 rfl (by kernel_rfl) (by kernel_rfl) (by kernel_rfl) (fun _ _ _ h => h) (by rfl) ?_ (by assumption) ?_
      rotate_left
      · (intro w hSw; (try dsimp only at hSw); go_simp; try with_reducible rfl)
      try simp only [Act.put, List.setIfInBounds_toArray, List.set_cons_zero, List.set_cons_succ]
      refine held_take (v := ?_) 13 rfl (by kernel_rfl) (by kernel_rfl) (by kernel_rfl) (fun _ _ _ h => h) (by rfl) ?_ (by assumption) ?_
      rotate_left
      · (intro w hSw; (try dsimp only at hSw); go_simp; try with_reducible rfl)
      try simp only [Act.put, List.setIfInBounds_toArray, List.set_cons_zero, List.set_cons_succ]
      refine held_take (v := ?_) 14 rfl (by kernel_rfl) (by kernel_rfl) (by kernel_rfl) (fun _ _ _ h => h) (by rfl) ?_ (by assumption) ?_
      rotate_left
      · (intro w hSw; (try dsimp only at hSw); go_simp; try with_reducible rfl)
      try simp only [Act.put, List.setIfInBounds_toArray, List.set_cons_zero, List.set_cons_succ]
      refine held_take (v := ?_) 15 rfl (by kernel_rfl) (by kernel_rfl) (by kernel_rfl) (fun _ _ _ h => h) (by rfl) ?_ (by assumption) ?_
      rotate_left
      · (intro w hSw; (try dsimp only at hSw); go_simp; try with_reducible rfl)
      try simp only [Act.put, List.setIfInBounds_toArray, List.set_cons_zero, List.set_cons_succ]
      refine held_take (v := ?_) 16 rfl (by kernel_rfl) (by kernel_rfl) (by kernel_rfl) (fun _ _ _ h => h) (by rfl) ?_ (by assumption) ?_
      rotate_left
      · (intro w hSw; (try dsimp only at hSw); go_simp; try with_reducible rfl)
      try simp only [Act.put, List.setIfInBounds_toArray, List.set_cons_zero, List.set_cons_succ]
      refine held_take (v := ?_) 17 rfl (by kernel_rfl) (by kernel_rfl) (by kernel_rfl) (fun _ _ _ h => h) (by rfl) ?_ (by assumption) ?_
      rotate_left
      · (intro w hSw; (try dsimp only at hSw); go_simp; try with_reducible rfl)
      try simp only [Act.put, List.setIfInBounds_toArray, List.set_cons_zero, List.set_cons_succ]
      refine held_take (v := ?_) 18 rfl (by kernel_rfl) (by kernel_rfl) (by kernel_rfl) (fun _ _ _ h => h) (by rfl) ?_ (by assumption) ?_
      rotate_left
      · (intro w hSw; (try dsimp only at hSw); go_simp; try with_reducible rfl)
      try simp only [Act.put, List.setIfInBounds_toArray, List.set_cons_zero, List.set_cons_succ]
      refine held_call2 4 19 (by kernel_rfl) rfl rfl (fun K hK => ?_) (fun K hK => ?_)
      · go_simp
        skip
        refine hK.out _ _ ?_ (fun hHeld1 => ?_)
        · first | trivial | ((try dsimp only); (exact ⟨g0, q0⟩))
        clear hK K hHeld0
        try simp only [Act.put, List.setIfInBounds_toArray, List.set_cons_zero, List.set_cons_succ]
        refine held_call 19 (by kernel_rfl) rfl (fun K hK => ?_)
        go_simp
        go_at_call 113; refine (HY.out.1 _).mono ?_; rintro e w5 ⟨rfl, rfl⟩
        try (go_wp2_with fail)
        refine hK.out _ _ ?_ (fun hHeld2 => ?_)
        · first | trivial | ((try dsimp only); (exact ⟨g0, q0⟩))
        clear hK K hHeld1
        try simp only [Act.put, List.setIfInBounds_toArray, List.set_cons_zero, List.set_cons_succ]
        refine held_take (v := ?_) 20 rfl (by kernel_rfl) (by kernel_rfl) (by kernel_rfl) (fun _ _ _ h => h) (by rfl) ?_ (by assumption) ?_
        rotate_left
        · (intro w hSw; (try dsimp only at hSw); go_simp; try with_reducible rfl)
        try simp only [Act.put, List.setIfInBounds_toArray, List.set_cons_zero, List.set_cons_succ]
        refine held_take (v := ?_) 21 rfl (by kernel_rfl) (by kernel_rfl) (by kernel_rfl) (fun _ _ _ h => h) (by rfl) ?_ (by assumption) ?_
        rotate_left
        · (intro w hSw; (try dsimp only at hSw); go_simp; try with_reducible rfl)
        try simp only [Act.put, List.setIfInBounds_toArray, List.set_cons_zero, List.set_cons_succ]
        refine held_call 22 (by kernel_rfl) rfl (fun K hK => ?_)
        refine step_app (α := U64) (n := T.length) (m := 1 + q) (nm := T.length + (1 + q)) (r := Hau.obj ws p) (by rfl) (.tmp 57) (.tmp 74) _ (by rfl) Z 24 j0 _ 8 Try.underlying39 hj hy0 hy1 hy2 rfl (by decide) u64_oneH (by rfl) rfl HW.out.2.1.drew (B := B) (X := some ⟨b, o + p, none⟩) (d := wc - p) (by rfl) HSRC.out.1.drew HSRC.out.2 rfl (by omega) (by simp only [maxLen]; omega) (by show Z ≤ W.heap.size; omega) ?_; intro A6 c6 w6 ho6 hgr6 hat6; have hbW6 : Below Z W w6 := ((Below.refl Z W).drew).grown hgr6 (by show Z ≤ W.heap.size; omega) (fun g hg => (HW.out.2.1.lt g hg).1); have n1 := HW.out.1.drew.grown hgr6 (fun e => own_ne_ty HW.out.2.1 HW.out.1 (by decide) e); have q6 := (hbW6.cell (p := ⟨b, o + p, none⟩) (show b < Z by omega)).trans q0; have g60 := n1.cell 0 (v := .slice (some ⟨b, o, none⟩) ws.length wc) rfl; have g61 := n1.cell 1 (v := .slice TA T.length tc) rfl; have z61 := n1.frozen 1
        refine hK.out _ _ ?_ (fun hHeld3 => ?_)
        · first | trivial | ((try dsimp only); (exact ⟨g60, q6⟩))
        clear hK K hHeld2
        try simp only [Act.put, List.setIfInBounds_toArray, List.set_cons_zero, List.set_cons_succ]
        refine held_take (v := ?_) 23 rfl (by kernel_rfl) (by kernel_rfl) (by kernel_rfl) (fun _ _ _ h => h) (by rfl) ?_ (by assumption) ?_
        rotate_left
        · (intro w hSw; (try dsimp only at hSw); go_simp; try with_reducible rfl)
        try simp only [Act.put, List.setIfInBounds_toArray, List.set_cons_zero, List.set_cons_succ]
        refine held_take (v := ?_) 24 rfl (by kernel_rfl) (by kernel_rfl) (by kernel_rfl) (fun _ _ _ h => h) (by rfl) ?_ (by assumption) ?_
        rotate_left
        · (intro w hSw; (try dsimp only at hSw); go_simp; try with_reducible rfl)
        try simp only [Act.put, List.setIfInBounds_toArray, List.set_cons_zero, List.set_cons_succ]
        refine held_call 25 (by kernel_rfl) rfl (fun K hK => ?_)
        go_simp
        skip
        refine hK.out _ _ ?_ (fun hHeld4 => ?_)
        · first | trivial | ((try dsimp only); (exact ⟨(n1.set_ 1 _).cell 0 rfl, ((hbW6.setCell (p := ⟨CB, 1, none⟩) hcz _).cell (p := ⟨b, o + p, none⟩) (show b < Z by omega)).trans q0⟩))
        clear hK K hHeld3
        try simp only [Act.put, List.setIfInBounds_toArray, List.set_cons_zero, List.set_cons_succ]
        refine wpAnyH_done (by kernel_rfl) ?_ _
        have HZ := Lib.hid (And.intro n1 (And.intro ho6 (And.intro hgr6 (And.intro hat6 hbW6)))); clear n1 ho6 hgr6 hat6 hbW6 g0 g1 q0 q6 g60 g61 z61
        go_upto_region 10 with fail
        refine wp_world (fun V => Hid (Hau.Coll V Z CB MB wc c6 c3' (some ⟨b, o, none⟩) A6 A3 ws (T ++ Hau.raw ws [p]) (F ++ [p]) ∧ Below Z w V ∧ (rowOf A6 = rowOf TA ∨ ∃ g, rowOf A6 = some g ∧ w.heap.size ≤ g) ∧ Hau.Keep w V CB MB TA LA)) ?_ ?_
        · unfold Hid; exact moved_end HW.out.1 HW.out.2.1 HW.out.2.2.1 HW.out.2.2.2.1 HW.out.2.2.2.2.1 HW.out.2.2.2.2.2 H.out.2.2.1.2.2.2.2.1 H.out.2.2.1.2.2.2.2.2 HZ.out.1 HZ.out.2.1 HZ.out.2.2.1 HZ.out.2.2.2.1 HZ.out.2.2.2.2 HM.out.2.2.2.2.2.1 HSRC.out.2 HM.out.2.2.2.2.2.2.1 HM.out.2.2.2.2.2.2.2
        intro V HV
        have hsV := HV.out.2.1.size
        clear HZ HW
        go_wp2_with fail
        refine (box_any 5 (T.length : Int) V (by unfold I64; omega) (by unfold I64; omega)).mono ?_
        rintro e w8 ⟨rfl, hb8⟩
        have hs8 := hb8.size
        go_wp2_with fail
        go_returns
        exact ⟨HV.out.2.1.trans (hb8.mono (by omega)), [p], A6, c6, A3, c3', HM.out.2.2.2.1, by rw [HM.out.2.2.2.2.1]; rfl, HV.out.1.fresh hb8, HV.out.2.2.1, HV.out.2.2.2.trans hsV (Hau.Keep.fresh hb8)⟩
      · go_simp
        go_at_call 113; refine (HY.out.1 _).mono ?_; rintro e w5 ⟨rfl, rfl⟩
        try (go_wp2_with fail)
        refine hK.out _ _ ?_ (fun hHeld1 => ?_)
        · first | trivial | ((try dsimp only); (exact ⟨g0, q0⟩))
        clear hK K hHeld0
        try simp only [Act.put, List.setIfInBounds_toArray, List.set_cons_zero, List.set_cons_succ]
        refine held_take (v := ?_) 20 rfl (by kernel_rfl) (by kernel_rfl) (by kernel_rfl) (fun _ _ _ h => h) (by rfl) ?_ (by assumption) ?_
        rotate_left
        · (intro w hSw; (try dsimp only at hSw); go_simp; try with_reducible rfl)
        try simp only [Act.put, List.setIfInBounds_toArray, List.set_cons_zero, List.set_cons_succ]
        refine held_take (v := ?_) 21 rfl (by kernel_rfl) (by kernel_rfl) (by kernel_rfl) (fun _ _ _ h => h) (by rfl) ?_ (by assumption) ?_
        rotate_left
        · (intro w hSw; (try dsimp only at hSw); go_simp; try with_reducible rfl)
        try simp only [Act.put, List.setIfInBounds_toArray, List.set_cons_zero, List.set_cons_succ]
        refine held_call 4 (by kernel_rfl) rfl (fun K hK => ?_)
        go_simp
        skip
        refine hK.out _ _ ?_ (fun hHeld2 => ?_)
        · first | trivial | ((try dsimp only); (exact ⟨g0, q0⟩))
        clear hK K hHeld1
        try simp only [Act.put, List.setIfInBounds_toArray, List.set_cons_zero, List.set_cons_succ]
        refine held_call 22 (by kernel_rfl) rfl (fun K hK => ?_)
        refine step_app (α := U64) (n := T.length) (m := 1 + q) (nm := T.length + (1 + q)) (r := Hau.obj ws p) (by rfl) (.tmp 57) (.tmp 74) _ (by rfl) Z 24 j0 _ 8 Try.underlying39 hj hy0 hy1 hy2 rfl (by decide) u64_oneH (by rfl) rfl HW.out.2.1.drew (B := B) (X := some ⟨b, o + p, none⟩) (d := wc - p) (by rfl) HSRC.out.1.drew HSRC.out.2 rfl (by omega) (by simp only [maxLen]; omega) (by show Z ≤ W.heap.size; omega) ?_; intro A6 c6 w6 ho6 hgr6 hat6; have hbW6 : Below Z W w6 := ((Below.refl Z W).drew).grown hgr6 (by show Z ≤ W.heap.size; omega) (fun g hg => (HW.out.2.1.lt g hg).1); have n1 := HW.out.1.drew.grown hgr6 (fun e => own_ne_ty HW.out.2.1 HW.out.1 (by decide) e); have q6 := (hbW6.cell (p := ⟨b, o + p, none⟩) (show b < Z by omega)).trans q0; have g60 := n1.cell 0 (v := .slice (some ⟨b, o, none⟩) ws.length wc) rfl; have g61 := n1.cell 1 (v := .slice TA T.length tc) rfl; have z61 := n1.frozen 1
        refine hK.out _ _ ?_ (fun hHeld3 => ?_)
        · first | trivial | ((try dsimp only); (exact ⟨g60, q6⟩))
        clear hK K hHeld2
        try simp only [Act.put, List.setIfInBounds_toArray, List.set_cons_zero, List.set_cons_succ]
        refine held_take (v := ?_) 23 rfl (by kernel_rfl) (by kernel_rfl) (by kernel_rfl) (fun _ _ _ h => h) (by rfl) ?_ (by assumption) ?_
        rotate_left
        · (intro w hSw; (try dsimp only at hSw); go_simp; try with_reducible rfl)
        try simp only [Act.put, List.setIfInBounds_toArray, List.set_cons_zero, List.set_cons_succ]
        refine held_take (v := ?_) 24 rfl (by kernel_rfl) (by kernel_rfl) (by kernel_rfl) (fun _ _ _ h => h) (by rfl) ?_ (by assumption) ?_
        rotate_left
        · (intro w hSw; (try dsimp only at hSw); go_simp; try with_reducible rfl)
        try simp only [Act.put, List.setIfInBounds_toArray, List.set_cons_zero, List.set_cons_succ]
        refine held_call 25 (by kernel_rfl) rfl (fun K hK => ?_)
        go_simp
        skip
        refine hK.out _ _ ?_ (fun hHeld4 => ?_)
        · first | trivial | ((try dsimp only); (exact ⟨(n1.set_ 1 _).cell 0 rfl, ((hbW6.setCell (p := ⟨CB, 1, none⟩) hcz _).cell (p := ⟨b, o + p, none⟩) (show b < Z by omega)).trans q0⟩))
        clear hK K hHeld3
        try simp only [Act.put, List.setIfInBounds_toArray, List.set_cons_zero, List.set_cons_succ]
        refine wpAnyH_done (by kernel_rfl) ?_ _
        have HZ := Lib.hid (And.intro n1 (And.intro ho6 (And.intro hgr6 (And.intro hat6 hbW6)))); clear n1 ho6 hgr6 hat6 hbW6 g0 g1 q0 q6 g60 g61 z61
        go_upto_region 10 with fail
        refine wp_world (fun V => Hid (Hau.Coll V Z CB MB wc c6 c3' (some ⟨b, o, none⟩) A6 A3 ws (T ++ Hau.raw ws [p]) (F ++ [p]) ∧ Below Z w V ∧ (rowOf A6 = rowOf TA ∨ ∃ g, rowOf A6 = some g ∧ w.heap.size ≤ g) ∧ Hau.Keep w V CB MB TA LA)) ?_ ?_
        · unfold Hid; exact moved_end HW.out.1 HW.out.2.1 HW.out.2.2.1 HW.out.2.2.2.1 HW.out.2.2.2.2.1 HW.out.2.2.2.2.2 H.out.2.2.1.2.2.2.2.1 H.out.2.2.1.2.2.2.2.2 HZ.out.1 HZ.out.2.1 HZ.out.2.2.1 HZ.out.2.2.2.1 HZ.out.2.2.2.2 HM.out.2.2.2.2.2.1 HSRC.out.2 HM.out.2.2.2.2.2.2.1 HM.out.2.2.2.2.2.2.2
        intro V HV
        have hsV := HV.out.2.1.size
        clear HZ HW
        go_wp2_with fail
        refine (box_any 5 (T.length : Int) V (by unfold I64; omega) (by unfold I64; omega)).mono ?_
        rintro e w8 ⟨rfl, hb8⟩
        have hs8 := hb8.size
        go_wp2_with fail
        go_returns
        exact ⟨HV.out.2.1.trans (hb8.mono (by omega)), [p], A6, c6, A3, c3', HM.out.2.2.2.1, by rw [HM.out.2.2.2.2.1]; rfl, HV.out.1.fresh hb8, HV.out.2.2.1, HV.out.2.2.2.trans hsV (Hau.Keep.fresh hb8)⟩

end Go.Proofs.Ytpkccpegdpodoaa

/- haul.Collect: what the heap keeps. -/
namespace Go.Proofs.Ytpkccpegdpodoaa
open Go.RowKit Go.Maps

attribute [local go_sem ↓] Go.wp_at_zero Go.wp_at_succ

theorem Own.set_u64 {w : World} {base : Nat} {e : TypeId} {c : Nat} {l : List U64} {g i : Nat} (b : U64) (h : Own w base e (some ⟨g, 0, none⟩) c l) (hi : i < l.length) : Own (w.setCell ⟨g, i, none⟩ (.int .u64 b.val)) base e (some ⟨g, 0, none⟩) c (l.set i b) := by
  have := h.set_ (i := i) (j := 0) (x := l[i]) (y := b) (u := .int .u64 b.val) rfl (List.getElem?_eq_getElem hi) (by decide) rfl
  simpa [Flat.sz] using this
theorem Own.cell_u64 {w : World} {base : Nat} {e : TypeId} {c : Nat} {l : List U64} {g i : Nat} {b : U64} (h : Own w base e (some ⟨g, 0, none⟩) c l) (hi : l[i]? = some b) : w.cell? ⟨g, i, none⟩ = some (.int .u64 b.val) := by
  have := h.cells_ (g := g) (o := 0) rfl (i * 1 + 0) (.int .u64 b.val) (flat_get l i 0 b hi (by decide))
  simpa using this

/-- a collection under way: the collector, and the moved roots, in a row of their own -/
def Hau.St (w0 w : World) (Z CB MB wc tc lc rc : Nat) (WA TA LA RA : Option Addr) (ws T : List U64) (F : List Nat) (out : List U64) : Prop :=
  Hau.Coll w Z CB MB wc tc lc WA TA LA ws T F ∧ Own w Z 24 RA rc out ∧ (∀ g, rowOf RA = some g → rowOf TA ≠ some g) ∧ Below Z w0 w
theorem Hau.St.fresh {w0 w w' : World} {Z CB MB wc tc lc rc : Nat} {WA TA LA RA : Option Addr} {ws T : List U64} {F : List Nat} {out : List U64} (h : Hau.St w0 w Z CB MB wc tc lc rc WA TA LA RA ws T F out) (hb : Below w.heap.size w w') : Hau.St w0 w' Z CB MB wc tc lc rc WA TA LA RA ws T F out :=
  ⟨h.1.fresh hb, h.2.1.fresh hb, h.2.2.1, h.2.2.2.trans (hb.mono (by have := h.1.1.lt; have := h.1.2.2.2.2.1; omega))⟩
/-- a word is moved -/
theorem Hau.St.moved {w0 w w' : World} {Z CB MB wc tc lc rc : Nat} {WA TA LA RA : Option Addr} {ws T : List U64} {F : List Nat} {out : List U64} {x : U64} {e : Ending} (h : Hau.St w0 w Z CB MB wc tc lc rc WA TA LA RA ws T F out) (hp : HmPost Z CB MB wc WA TA LA ws T F x w e w') :
    ∃ X TA' tc' LA' lc', Hau.addW F x = F ++ X ∧ e = .returned (.int .u64 (Hau.trn ws (F ++ X) x).val) ∧ Hau.St w0 w' Z CB MB wc tc' lc' rc WA TA' LA' RA ws (T ++ Hau.raw ws X) (F ++ X) out := by
  obtain ⟨h1, h2, h3, h4⟩ := h
  obtain ⟨hb, X, TA', tc', LA', lc', e1, e2, hc, hr, hk⟩ := hp
  refine ⟨X, TA', tc', LA', lc', e1, e2, hc, ?_, ?_, h4.trans hb⟩
  · exact h2.block_ fun g hg => hk g (h2.lt g hg).2 (fun e => own_ne_ty h2 h1.1 (by decide) (by rw [hg, e])) (fun e => own_ne_map h2 h1.2.2.2.1 (by rw [hg, e])) (h3 g hg) (fun e => own_own_ty h2 h1.2.2.1 (by decide) g hg e)
  · intro g hg e
    rcases hr with hr | ⟨k, hr, hk2⟩
    · exact h3 g hg (by rw [← hr]; exact e)
    · rw [hr] at e; injection e with e; subst e
      have := (h2.lt k hg).2
      omega
/-- a root is appended -/
theorem Hau.St.rooted {w0 w v w' : World} {Z CB MB wc tc lc rc rc' : Nat} {WA TA LA RA RA' : Option Addr} {ws T : List U64} {F : List Nat} {out out' : List U64} (h : Hau.St w0 w Z CB MB wc tc lc rc WA TA LA RA ws T F out) (hv : Below w.heap.size w v)
    (ho : Own w' Z 24 RA' rc' out') (hg : v.grownBy w' (rowOf RA)) (ha : rowOf RA' = rowOf RA ∨ rowOf RA' = some v.heap.size) : Hau.St w0 w' Z CB MB wc tc lc rc' WA TA LA RA' ws T F out' := by
  have hz := h.1.2.2.2.2.1
  have hl := h.1.1.lt
  have hs := hv.size
  obtain ⟨⟨c1, c2, c3, c4, c5⟩, h2, h3, h4⟩ := h.fresh hv
  refine ⟨⟨c1.grown hg (fun e => own_ne_ty h2 c1 (by decide) e), c2.grown hg (fun g hg e => h3 g e hg), c3.grown hg (fun g hg e => own_own_ty c3 h2 (by decide) g hg e), c4.kept hg (fun e => own_ne_map h2 c4 e.symm), c5⟩, ho, ?_, h4.grown hg (by omega) (fun g hg => (h2.lt g hg).1)⟩
  intro g hg e
  rcases ha with ha | ha
  · exact h3 g (by rw [← ha]; exact hg) e
  · rw [ha] at hg; injection hg with hg; subst hg
    have := (c2.lt _ e).2
    omega
/-- a word is stored -/
theorem Hau.St.put {w0 w : World} {Z CB MB wc tc lc rc g i : Nat} {WA LA RA : Option Addr} {ws T : List U64} {F : List Nat} {out : List U64} (h : Hau.St w0 w Z CB MB wc tc lc rc WA (some ⟨g, 0, none⟩) LA RA ws T F out) (hi : i < T.length) (b : U64) :
    Hau.St w0 (w.setCell ⟨g, i, none⟩ (.int .u64 b.val)) Z CB MB wc tc lc rc WA (some ⟨g, 0, none⟩) LA RA ws (T.set i b) F out := by
  obtain ⟨⟨c1, c2, c3, c4, c5⟩, h2, h3, h4⟩ := h
  have hg := (c2.lt g rfl).1
  refine ⟨⟨?_, c2.set_u64 b hi, c3.setCell _ _ (fun e => own_own_ty c3 c2 (by decide) g e rfl), c4.setCell (fun e => own_ne_map c2 c4 (by rw [e]; rfl)) _, c5⟩, h2.setCell _ _ (fun e => h3 g e rfl), h3, h4.setCell hg _⟩
  rw [List.length_set]
  exact c1.far (fun e => own_ne_ty c2 c1 (by decide) (by rw [e]; rfl)) _

end Go.Proofs.Ytpkccpegdpodoaa
