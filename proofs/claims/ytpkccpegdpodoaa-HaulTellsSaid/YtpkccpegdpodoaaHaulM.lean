/- A heap that moves: what a collection leaves, step by step. -/
import Derived.Test.YtpkccpegdpodoaaHaulL
namespace Go.Proofs.Ytpkccpegdpodoaa
open Go.RowKit

namespace Hau
def tail (ws : List U64) (p : Nat) : List U64 := (obj ws p).drop 1
/-- an object of which the first q words behind its first one are turned -/
def pobj (ws : List U64) (F : List Nat) (q p : Nat) : List U64 := (obj ws p).take 1 ++ ((tail ws p).take q).map (trn ws F) ++ (tail ws p).drop q
def tobj (ws : List U64) (F : List Nat) (p : Nat) : List U64 := (obj ws p).take 1 ++ (tail ws p).map (trn ws F)
/-- all that words tell is among some places -/
def known (F : List Nat) (l : List U64) : Prop := ∀ x ∈ l, ∀ r, refOf x = some r → r ∈ F
theorem known.app {F X : List Nat} {l : List U64} (h : known F l) : known (F ++ X) l := fun x hx r hr => List.mem_append.2 (.inl (h x hx r hr))
theorem trn_app {ws : List U64} {F X : List Nat} {x : U64} (h : ∀ r, refOf x = some r → r ∈ F) : trn ws (F ++ X) x = trn ws F x := by
  unfold trn
  split
  · rfl
  · rename_i p hp
    rw [posOf_app (h p hp)]
theorem map_trn_app {ws : List U64} {F X : List Nat} {l : List U64} (h : known F l) : l.map (trn ws (F ++ X)) = l.map (trn ws F) := List.map_congr_left fun x hx => trn_app (h x hx)
theorem addW_known {F : List Nat} {x : U64} : ∀ r, refOf x = some r → r ∈ addW F x := by
  intro r hr
  unfold addW
  rw [hr]
  exact add_mem
theorem addAll_known : ∀ (l : List U64) (F : List Nat), known (addAll F l) l
  | [], _ => fun x hx => by cases hx
  | x :: l, F => by
    intro y hy r hr
    unfold addAll
    rw [List.foldl_cons]
    rcases List.mem_cons.1 hy with rfl | hy
    · obtain ⟨X, hX⟩ := addAll_pre l (addW F y)
      unfold addAll at hX
      rw [hX]
      exact List.mem_append.2 (.inl (addW_known r hr))
    · exact addAll_known l (addW F x) y hy r hr
theorem tobj_app {ws : List U64} {F X : List Nat} {p : Nat} (h : known F (tail ws p)) : tobj ws (F ++ X) p = tobj ws F p := by
  unfold tobj; rw [map_trn_app h]
theorem pobj_zero (ws : List U64) (F : List Nat) (p : Nat) : pobj ws F 0 p = obj ws p := by
  unfold pobj tail
  rw [List.take_zero, List.map_nil, List.append_nil, List.drop_zero, List.take_append_drop]
theorem pobj_full {ws : List U64} {F : List Nat} {p q : Nat} (h : (tail ws p).length ≤ q) : pobj ws F q p = tobj ws F p := by
  unfold pobj tobj; rw [List.take_of_length_le h, List.drop_eq_nil_of_le h, List.append_nil]
theorem tail_length {ws : List U64} {p : Nat} (h : p + sz ws p ≤ ws.length) : (tail ws p).length = lg (wat ws p) := by
  unfold tail; rw [List.length_drop, obj_length h]; unfold sz; omega
theorem tobj_length {ws : List U64} {F : List Nat} {p : Nat} (h : p + sz ws p ≤ ws.length) : (tobj ws F p).length = sz ws p := by
  unfold tobj
  have := sz_pos ws p
  rw [List.length_append, List.length_map, tail_length h, List.length_take, obj_length h]; unfold sz; omega
theorem pobj_length {ws : List U64} {F : List Nat} {p q : Nat} (h : p + sz ws p ≤ ws.length) : (pobj ws F q p).length = sz ws p := by
  unfold pobj
  have := sz_pos ws p
  have ht := tail_length h
  rw [List.length_append, List.length_append, List.length_map, List.length_take, List.length_take, List.length_drop, ht, obj_length h]; unfold sz; omega
theorem tobjs_length {ws : List U64} {F : List Nat} : ∀ {G : List Nat}, (∀ p ∈ G, p + sz ws p ≤ ws.length) → (G.flatMap (tobj ws F)).length = (G.map (sz ws)).sum
  | [], _ => rfl
  | p :: G, h => by
    rw [List.flatMap_cons, List.length_append, tobj_length (h p (by simp)), List.map_cons, List.sum_cons, tobjs_length (fun q hq => h q (by simp [hq]))]

/-- the words while object p is turned: G are done, R wait -/
def cont (ws : List U64) (G : List Nat) (p : Nat) (R : List Nat) (q : Nat) : List U64 := G.flatMap (tobj ws (G ++ p :: R)) ++ pobj ws (G ++ p :: R) q p ++ raw ws R

theorem obj_head {ws : List U64} {p : Nat} (h : p + sz ws p ≤ ws.length) : (obj ws p)[0]? = some (wat ws p) := by
  have := sz_pos ws p
  unfold obj wat
  rw [List.getElem?_take, if_pos (by omega), List.getElem?_drop, Nat.add_zero, List.getD_eq_getElem?_getD, List.getElem?_eq_getElem (by omega)]; rfl
/-- the word that is turned next -/
theorem cont_get {ws : List U64} {G R : List Nat} {p q : Nat} {x : U64} (hG : ∀ p ∈ G, p + sz ws p ≤ ws.length) (hp : p + sz ws p ≤ ws.length) (hx : (tail ws p)[q]? = some x) :
    (cont ws G p R q)[(G.map (sz ws)).sum + (1 + q)]? = some x := by
  have hl := tobjs_length (F := G ++ p :: R) hG
  have hs := sz_pos ws p
  have hq := (List.getElem?_eq_some_iff.1 hx).1
  unfold cont
  rw [List.append_assoc, List.getElem?_append_right (by omega), hl, Nat.add_sub_cancel_left]
  have h1 : ((obj ws p).take 1).length = 1 := by rw [List.length_take, obj_length hp]; omega
  have h2 : (((tail ws p).take q).map (trn ws (G ++ p :: R))).length = q := by rw [List.length_map, List.length_take]; omega
  unfold pobj
  rw [List.append_assoc, List.append_assoc, List.getElem?_append_right (by omega), h1, Nat.add_sub_cancel_left, List.getElem?_append_right (by omega), h2, Nat.sub_self, List.getElem?_append_left (by rw [List.length_drop]; omega), List.getElem?_drop, Nat.add_zero]
  exact hx
theorem cont_head {ws : List U64} {G R : List Nat} {p q : Nat} (hG : ∀ p ∈ G, p + sz ws p ≤ ws.length) (hp : p + sz ws p ≤ ws.length) : (cont ws G p R q)[(G.map (sz ws)).sum]? = some (wat ws p) := by
  have hl := tobjs_length (F := G ++ p :: R) hG
  have hs := sz_pos ws p
  have h1 : ((obj ws p).take 1).length = 1 := by rw [List.length_take, obj_length hp]; omega
  unfold cont
  rw [List.append_assoc, List.getElem?_append_right (by omega), hl, Nat.sub_self]
  unfold pobj
  rw [List.append_assoc, List.append_assoc, List.getElem?_append_left (by omega), List.getElem?_take, if_pos (by omega)]
  exact obj_head hp
theorem set_app_right {α : Type} (A B : List α) (i : Nat) (x : α) : (A ++ B).set (A.length + i) x = A ++ B.set i x := by
  rw [List.set_append_right _ _ (by omega), Nat.add_sub_cancel_left]
/-- a step: a word is turned; what it tells anew is put behind all -/
theorem cont_step {ws : List U64} {G R : List Nat} {p q : Nat} {x : U64} (hG : ∀ p ∈ G, p + sz ws p ≤ ws.length) (hp : p + sz ws p ≤ ws.length) (hx : (tail ws p)[q]? = some x)
    (hk : ∀ g ∈ G, known (G ++ p :: R) (tail ws g)) (hkq : known (G ++ p :: R) ((tail ws p).take q)) (X : List Nat) (hX : addW (G ++ p :: R) x = (G ++ p :: R) ++ X) :
    (cont ws G p R q ++ raw ws X).set ((G.map (sz ws)).sum + (1 + q)) (trn ws (G ++ p :: (R ++ X)) x) = cont ws G p (R ++ X) (q + 1) ∧
      (∀ g ∈ G, known (G ++ p :: (R ++ X)) (tail ws g)) ∧ known (G ++ p :: (R ++ X)) ((tail ws p).take (q + 1)) := by
  have e : G ++ p :: (R ++ X) = (G ++ p :: R) ++ X := by simp
  have hl := tobjs_length (F := G ++ p :: R) hG
  have hs := sz_pos ws p
  have hq := (List.getElem?_eq_some_iff.1 hx).1
  rw [e]
  refine ⟨?_, fun g hg => (hk g hg).app, ?_⟩
  · have hm : G.flatMap (tobj ws ((G ++ p :: R) ++ X)) = G.flatMap (tobj ws (G ++ p :: R)) := by
      rw [List.flatMap_def, List.flatMap_def, List.map_congr_left (fun g hg => tobj_app (X := X) (hk g hg))]
    have h1 : ((obj ws p).take 1).length = 1 := by rw [List.length_take, obj_length hp]; omega
    have h2 : (((tail ws p).take q).map (trn ws (G ++ p :: R))).length = q := by rw [List.length_map, List.length_take]; omega
    have hd : (tail ws p).drop q = x :: (tail ws p).drop (q + 1) := by
      rw [List.drop_eq_getElem_cons hq]
      congr 1
      rw [List.getElem?_eq_getElem hq] at hx
      exact Option.some.inj hx
    unfold cont
    rw [e, hm, raw_append]
    unfold pobj
    have ht : (tail ws p).take (q + 1) = (tail ws p).take q ++ [x] := by rw [List.take_add_one, hx]; rfl
    rw [ht, List.map_append, map_trn_app hkq, hd]
    have eA : G.flatMap (tobj ws (G ++ p :: R)) ++ ((obj ws p).take 1 ++ ((tail ws p).take q).map (trn ws (G ++ p :: R)) ++ x :: (tail ws p).drop (q + 1)) ++ raw ws R ++ raw ws X
        = (G.flatMap (tobj ws (G ++ p :: R)) ++ (obj ws p).take 1 ++ ((tail ws p).take q).map (trn ws (G ++ p :: R))) ++ x :: ((tail ws p).drop (q + 1) ++ raw ws R ++ raw ws X) := by simp
    have lA : (G.flatMap (tobj ws (G ++ p :: R)) ++ (obj ws p).take 1 ++ ((tail ws p).take q).map (trn ws (G ++ p :: R))).length = (G.map (sz ws)).sum + (1 + q) := by
      rw [List.length_append, List.length_append, hl, h1, h2]; omega
    rw [eA, ← lA, List.set_append_right _ _ (Nat.le_refl _), Nat.sub_self, List.set_cons_zero]
    simp
  · rw [List.take_add_one, hx, Option.toList_some]
    intro y hy r hr
    rcases List.mem_append.1 hy with hy | hy
    · exact List.mem_append.2 (.inl (hkq y hy r hr))
    · simp at hy; subst hy; rw [← hX]; exact addW_known r hr
theorem cont_length {ws : List U64} {G R : List Nat} {p q : Nat} (hG : ∀ r ∈ G ++ p :: R, r + sz ws r ≤ ws.length) : (cont ws G p R q).length = ((G ++ p :: R).map (sz ws)).sum := by
  unfold cont
  rw [List.length_append, List.length_append, tobjs_length (fun g hg => hG g (by simp [hg])), pobj_length (hG p (by simp)), raw_length (fun g hg => hG g (by simp [hg])), List.map_append, List.sum_append, List.map_cons, List.sum_cons]
  omega

/-- the order in which objects are told, from the i-th one on -/
def bfs (ws : List U64) : Nat → List Nat → Nat → List Nat
  | 0, F, _ => F
  | f + 1, F, i => if i < F.length then bfs ws f (addAll F (tail ws (F.getD i 0))) (i + 1) else F
def told (ws roots : List U64) : List Nat := bfs ws (ws.length + 1) (addAll [] roots) 0
def newWords (ws roots : List U64) : List U64 := (told ws roots).flatMap (tobj ws (told ws roots))
def newRoots (ws roots : List U64) : List U64 := roots.map (trn ws (told ws roots))
def movesL (ws roots : List U64) : List (Int × Int) := (cum ws 0 (told ws roots)).map fun m => ((m.1 : Int), (m.2 : Int))

theorem wordsOk_tail {ws : List U64} (hok : okW ws = true) (hw : wordsOk ws = true) {p : Nat} (hp : p ∈ places ws) : ∀ x ∈ tail ws p, fits (places ws) x = true := by
  have hsp := places_spec hok
  intro x hx
  obtain ⟨i, hi⟩ := List.mem_iff_getElem?.1 hx
  have hb := hsp.1 p hp
  have hil : i < (tail ws p).length := (List.getElem?_eq_some_iff.1 hi).1
  rw [tail_length hb] at hil
  unfold tail obj at hi
  rw [List.getElem?_drop, List.getElem?_take, if_pos (by unfold sz; omega), List.getElem?_drop] at hi
  have hlt : p + (1 + i) < ws.length := (List.getElem?_eq_some_iff.1 hi).1
  have hwat : wat ws (p + (1 + i)) = x := by unfold wat; rw [List.getD_eq_getElem?_getD, hi]; rfl
  have h := List.all_eq_true.1 hw (p + (1 + i)) (List.mem_range.2 hlt)
  rw [hwat] at h
  -- it is no place itself
  have hno : (places ws).contains (p + (1 + i)) = false := by
    rw [Bool.eq_false_iff]
    intro hc
    have hc := List.contains_iff_mem.1 hc
    unfold okW at hok
    obtain ⟨h1, h2, h3⟩ := objs_spec ws (ws.length + 1) 0 (by omega) (by simpa using hok)
    have key : ∀ f q, ∀ a ∈ objs ws f q, ∀ b ∈ objs ws f q, a < b → a + sz ws a ≤ b := by
      intro f
      induction f with
      | zero => intro q a ha; cases ha
      | succ f ih =>
        intro q a ha b hb' hab
        unfold objs at ha hb'
        split at ha
        · rename_i hq
          rw [if_pos hq] at hb'
          rcases List.mem_cons.1 ha with rfl | ha
          · rcases List.mem_cons.1 hb' with rfl | hb'
            · omega
            · have ge : ∀ f q, ∀ b ∈ objs ws f q, q ≤ b := by
                intro f
                induction f with
                | zero => intro q b hb; cases hb
                | succ f ih2 =>
                  intro q b hb
                  unfold objs at hb
                  split at hb
                  · rcases List.mem_cons.1 hb with rfl | hb
                    · exact Nat.le_refl _
                    · have := ih2 _ b hb; have := sz_pos ws q; omega
                  · cases hb
              exact ge _ _ b hb'
          · rcases List.mem_cons.1 hb' with rfl | hb'
            · have ge : ∀ f q, ∀ b ∈ objs ws f q, q ≤ b := by
                intro f
                induction f with
                | zero => intro q b hb; cases hb
                | succ f ih2 =>
                  intro q b hb
                  unfold objs at hb
                  split at hb
                  · rcases List.mem_cons.1 hb with rfl | hb
                    · exact Nat.le_refl _
                    · have := ih2 _ b hb; have := sz_pos ws q; omega
                  · cases hb
              have := ge _ _ a ha
              have := sz_pos ws b
              omega
            · exact ih _ a ha b hb' hab
        · cases ha
    have := key _ _ p hp _ hc (by omega)
    unfold sz at this
    omega
  rw [hno, Bool.false_or] at h
  exact h
end Hau

end Go.Proofs.Ytpkccpegdpodoaa
