/- A heap that moves: what a collection's rounds keep. -/
import Derived.Test.YtpkccpegdpodoaaHaulM
namespace Go.Proofs.Ytpkccpegdpodoaa
open Go.RowKit

namespace Hau
def Ou (ws roots : List U64) (F1 G R : List Nat) : Prop :=
  (G ++ R).Nodup ∧ (∀ r ∈ G ++ R, r ∈ places ws) ∧ (∀ g ∈ G, known (G ++ R) (tail ws g)) ∧ (∃ X, G ++ R = F1 ++ X) ∧ ∃ f, bfs ws f (G ++ R) G.length = told ws roots ∧ ws.length < f + G.length
def In (ws roots : List U64) (F1 F0 G : List Nat) (p : Nat) (R : List Nat) (q : Nat) : Prop :=
  (G ++ p :: R).Nodup ∧ (∀ r ∈ G ++ p :: R, r ∈ places ws) ∧ (∀ g ∈ G, known (G ++ p :: R) (tail ws g)) ∧ known (G ++ p :: R) ((tail ws p).take q) ∧ G ++ p :: R = addAll F0 ((tail ws p).take q) ∧ (∃ X, F0 = F1 ++ X) ∧ (∃ R0, F0 = G ++ p :: R0) ∧
    ∃ f, bfs ws f F0 G.length = told ws roots ∧ ws.length < f + G.length
theorem Ou.start {ws roots : List U64} (hok : okW ws = true) (hr : rootsOk ws roots = true) : Ou ws roots (addAll [] roots) [] (addAll [] roots) :=
  ⟨addAll_nodup roots List.nodup_nil, addAll_sub roots (by simp) (fun x hx => List.all_eq_true.1 hr x hx), by simp, ⟨[], by simp⟩, ws.length + 1, rfl, by simp⟩
theorem Ou.into {ws roots : List U64} {F1 G R : List Nat} {p : Nat} (h : Ou ws roots F1 G (p :: R)) : In ws roots F1 (G ++ p :: R) G p R 0 := by
  obtain ⟨h1, h2, h3, h4, h5⟩ := h
  exact ⟨h1, h2, h3, by intro x hx; simp at hx, by simp [addAll], h4, ⟨R, rfl⟩, h5⟩
theorem addW_app {F : List Nat} {x : U64} {l : List U64} {k : Nat} {F0 : List Nat} (h : F = addAll F0 (l.take k)) (hx : l[k]? = some x) : addW F x = addAll F0 (l.take (k + 1)) := by
  rw [addAll_snoc hx, h]
theorem In.next {ws roots : List U64} {F1 F0 G R X : List Nat} {p q : Nat} {x : U64} (h : In ws roots F1 F0 G p R q) (hok : okW ws = true) (hw : wordsOk ws = true) (hx : (tail ws p)[q]? = some x) (hX : addW (G ++ p :: R) x = (G ++ p :: R) ++ X) : In ws roots F1 F0 G p (R ++ X) (q + 1) := by
  obtain ⟨h1, h2, h3, h4, h5, h6, h7, h8⟩ := h
  have e : G ++ p :: (R ++ X) = (G ++ p :: R) ++ X := by simp
  have hpp : p ∈ places ws := h2 p (by simp)
  have hfx : fits (places ws) x = true := wordsOk_tail hok hw hpp x (List.mem_of_getElem? hx)
  unfold In
  rw [e]
  refine ⟨by rw [← hX]; exact addW_nodup h1, by rw [← hX]; exact addW_sub h2 hfx, fun g hg => (h3 g hg).app, ?_, by rw [← hX]; exact addW_app h5 hx, h6, h7, h8⟩
  rw [List.take_add_one, hx, Option.toList_some]
  intro y hy r hr
  rcases List.mem_append.1 hy with hy | hy
  · exact List.mem_append.2 (.inl (h4 y hy r hr))
  · simp at hy; subst hy; rw [← hX]; exact addW_known r hr
theorem len_le {ws : List U64} (hok : okW ws = true) {F : List Nat} (h1 : F.Nodup) (h2 : ∀ r ∈ F, r ∈ places ws) : (F.map (sz ws)).sum ≤ ws.length ∧ F.length ≤ (F.map (sz ws)).sum := by
  refine ⟨?_, ?_⟩
  · have := sum_sub (sz ws) F (places ws) h1 h2
    rw [(places_spec hok).2.2] at this; exact this
  · clear h1 h2
    induction F with
    | nil => simp
    | cons g G ih => have := sz_pos ws g; simp only [List.length_cons, List.map_cons, List.sum_cons]; omega
theorem In.out {ws roots : List U64} {F1 F0 G R : List Nat} {p q : Nat} (h : In ws roots F1 F0 G p R q) (hok : okW ws = true) (hq : (tail ws p).length ≤ q) : Ou ws roots F1 (G ++ [p]) R := by
  obtain ⟨h1, h2, h3, h4, h5, ⟨X, h6⟩, ⟨R0, h7⟩, f, h8, h9⟩ := h
  have e : (G ++ [p]) ++ R = G ++ p :: R := by simp
  rw [List.take_of_length_le hq] at h4 h5
  have hl := len_le hok h1 h2
  obtain ⟨Y, hY⟩ := addAll_pre (tail ws p) F0
  unfold Ou
  rw [e]
  refine ⟨h1, h2, fun g hg => ?_, ⟨X ++ Y, by rw [h5, hY, h6, List.append_assoc]⟩, ?_⟩
  · rcases List.mem_append.1 hg with hg | hg
    · exact h3 g hg
    · simp at hg; subst hg; exact h4
  · cases f with
    | zero =>
      rw [List.length_append, List.length_cons] at hl
      omega
    | succ f =>
      refine ⟨f, ?_, by simp; omega⟩
      have hlt : G.length < F0.length := by rw [h7, List.length_append, List.length_cons]; omega
      have hgd : F0.getD G.length 0 = p := by rw [h7, List.getD_eq_getElem?_getD, List.getElem?_append_right (Nat.le_refl _), Nat.sub_self]; rfl
      unfold bfs at h8
      rw [if_pos hlt, hgd, ← h5] at h8
      rw [← h8]; simp
theorem Ou.done {ws roots : List U64} {F1 G : List Nat} (h : Ou ws roots F1 G []) : G = told ws roots := by
  obtain ⟨h1, h2, h3, h4, f, h5, h6⟩ := h
  rw [List.append_nil] at h5
  rw [← h5]
  cases f with
  | zero => rfl
  | succ f => unfold bfs; rw [if_neg (by omega)]
/-- the words between two objects -/
def mid (ws : List U64) (G R : List Nat) : List U64 := G.flatMap (tobj ws (G ++ R)) ++ raw ws R
theorem mid_nil (ws : List U64) (R : List Nat) : mid ws [] R = raw ws R := by simp [mid]
theorem mid_cont (ws : List U64) (G R : List Nat) (p : Nat) : mid ws G (p :: R) = cont ws G p R 0 := by
  unfold mid cont
  rw [pobj_zero, raw, List.flatMap_cons, List.append_assoc]; rfl
theorem cont_mid {ws : List U64} {G R : List Nat} {p q : Nat} (hq : (tail ws p).length ≤ q) : cont ws G p R q = mid ws (G ++ [p]) R := by
  unfold mid cont
  rw [pobj_full hq, show (G ++ [p]) ++ R = G ++ p :: R by simp, List.flatMap_append]
  simp
theorem mid_end (ws : List U64) (G : List Nat) : mid ws G [] = G.flatMap (tobj ws G) := by simp [mid, raw]
theorem mid_length {ws : List U64} {G R : List Nat} (h : ∀ p ∈ G ++ R, p + sz ws p ≤ ws.length) : (mid ws G R).length = ((G ++ R).map (sz ws)).sum := by
  unfold mid
  rw [List.length_append, tobjs_length (fun g hg => h g (by simp [hg])), raw_length (fun g hg => h g (by simp [hg])), List.map_append, List.sum_append]
/-- the roots, as far as they are moved -/
theorem roots_next {ws : List U64} {F X : List Nat} {roots : List U64} {k : Nat} {x : U64} (hF : F = addAll [] (roots.take k)) (hx : roots[k]? = some x) (hX : addW F x = F ++ X) :
    (roots.take k).map (trn ws F) ++ [trn ws (F ++ X) x] = (roots.take (k + 1)).map (trn ws (F ++ X)) := by
  have hk : known F (roots.take k) := by rw [hF]; exact addAll_known _ _
  rw [List.take_add_one, hx, Option.toList_some, List.map_append, map_trn_app hk]; rfl
theorem roots_end {ws roots : List U64} {F1 X : List Nat} (h : F1 = addAll [] roots) : roots.map (trn ws F1) = roots.map (trn ws (F1 ++ X)) := by
  rw [map_trn_app]; rw [h]; exact addAll_known _ _
end Hau

end Go.Proofs.Ytpkccpegdpodoaa
