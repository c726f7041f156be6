/- KT: HaulL, HaulM, StoL, HaulN, StoM. -/
import Derived.Test.YtdlcooplllimeaaGreatDoorKT1
import Derived.Test.YtdlcooplllimeaaGreatDoorKT2
import Derived.Maps.OwnSet
/- A heap that moves: the plain functions: places, what fits, what is moved where. -/
namespace Go.Proofs.YtdlcooplllimeaaGreatDoor
open Go.RowKit

namespace Hau
def wat (ws : List U64) (k : Nat) : U64 := ws.getD k ⟨0⟩
def lg (x : U64) : Nat := (x.val % 4294967296).toNat
/-- the place that a word tells -/
def refOf (x : U64) : Option Nat := match unbL x.val with | some (k, n) => if k = 5 then some n.toNat else none | none => none
def fits (pl : List Nat) (x : U64) : Bool := match unbL x.val with | some (k, n) => decide (k ≠ 5) || pl.contains n.toNat | none => false
def sz (ws : List U64) (p : Nat) : Nat := 1 + lg (wat ws p)
def objs (ws : List U64) : Nat → Nat → List Nat
  | 0, _ => []
  | f + 1, p => if p < ws.length then p :: objs ws f (p + sz ws p) else []
def oend (ws : List U64) : Nat → Nat → Nat
  | 0, p => p
  | f + 1, p => if p < ws.length then oend ws f (p + sz ws p) else p
def places (ws : List U64) : List Nat := objs ws (ws.length + 1) 0
def okW (ws : List U64) : Bool := oend ws (ws.length + 1) 0 == ws.length
def wordsOk (ws : List U64) : Bool := (List.range ws.length).all fun i => (places ws).contains i || fits (places ws) (wat ws i)
def rootsOk (ws roots : List U64) : Bool := roots.all (fits (places ws))
def heapErr (h : Hp) : Int := if 2000 < h.words.length ∨ 100 < h.roots.length then 2 else if okW h.words = false then 3 else if wordsOk h.words = false then 3 else if rootsOk h.words h.roots = false then 3 else 0

theorem sz_pos (ws : List U64) (p : Nat) : 1 ≤ sz ws p := by unfold sz; omega
theorem objs_done {ws : List U64} {f p : Nat} (h : ws.length ≤ p) : objs ws f p = [] := by
  cases f with
  | zero => rfl
  | succ f => unfold objs; rw [if_neg (by omega)]
theorem oend_done {ws : List U64} {f p : Nat} (h : ws.length ≤ p) : oend ws f p = p := by
  cases f with
  | zero => rfl
  | succ f => unfold oend; rw [if_neg (by omega)]
theorem objs_step {ws : List U64} {f p : Nat} (h : p < ws.length) (hf : ws.length < f + p) : ∃ f', objs ws f p = p :: objs ws f' (p + sz ws p) ∧ oend ws f p = oend ws f' (p + sz ws p) ∧ (ws.length < f' + (p + sz ws p)) := by
  cases f with
  | zero => omega
  | succ f =>
    have := sz_pos ws p
    exact ⟨f, by rw [objs, if_pos h], by rw [oend, if_pos h], by omega⟩
/-- the objects from p on: rising, within, as long as what is left -/
theorem objs_spec (ws : List U64) : ∀ f p, ws.length < f + p → oend ws f p = ws.length → (∀ q ∈ objs ws f p, p ≤ q ∧ q + sz ws q ≤ ws.length) ∧ (objs ws f p).Pairwise (· < ·) ∧ ((objs ws f p).map (sz ws)).sum + p = ws.length
  | 0, p, hf, he => by
    unfold oend at he
    omega
  | f + 1, p, hf, he => by
    by_cases h : p < ws.length
    · have hp := sz_pos ws p
      unfold oend at he
      rw [if_pos h] at he
      obtain ⟨h1, h2, h3⟩ := objs_spec ws f (p + sz ws p) (by omega) he
      unfold objs
      rw [if_pos h]
      refine ⟨fun q hq => ?_, List.pairwise_cons.2 ⟨fun q hq => by have := (h1 q hq).1; omega, h2⟩, by rw [List.map_cons, List.sum_cons]; omega⟩
      rcases List.mem_cons.1 hq with rfl | hq
      · refine ⟨Nat.le_refl _, ?_⟩
        have : 0 ≤ ((objs ws f (q + sz ws q)).map (sz ws)).sum := Nat.zero_le _
        omega
      · have := h1 q hq
        exact ⟨by omega, this.2⟩
    · rw [objs_done (by omega)]
      rw [oend_done (by omega)] at he
      exact ⟨by simp, List.Pairwise.nil, by simp; exact he⟩
theorem places_spec {ws : List U64} (h : okW ws = true) : (∀ q ∈ places ws, q + sz ws q ≤ ws.length) ∧ (places ws).Nodup ∧ ((places ws).map (sz ws)).sum = ws.length := by
  unfold okW at h
  obtain ⟨h1, h2, h3⟩ := objs_spec ws (ws.length + 1) 0 (by omega) (by simpa using h)
  exact ⟨fun q hq => (h1 q hq).2, h2.imp (fun h => by omega), h3⟩
/-- a list without doubles within another one: its sum is no greater -/
theorem sum_sub (g : Nat → Nat) : ∀ (F P : List Nat), F.Nodup → (∀ p ∈ F, p ∈ P) → (F.map g).sum ≤ (P.map g).sum
  | [], _, _, _ => by simp
  | p :: F, P, hn, hs => by
    have hp := hs p (List.mem_cons_self ..)
    have hperm := List.perm_cons_erase hp
    have h1 := sum_sub g F (P.erase p) (List.nodup_cons.1 hn).2 (fun q hq => by
      have hne : q ≠ p := fun e => (List.nodup_cons.1 hn).1 (e ▸ hq)
      exact (List.mem_erase_of_ne hne).2 (hs q (List.mem_cons_of_mem _ hq)))
    have h2 : (P.map g).sum = g p + ((P.erase p).map g).sum := by
      rw [(hperm.map g).sum_nat, List.map_cons, List.sum_cons]
    rw [List.map_cons, List.sum_cons]
    omega

/-! ### what is moved -/
def obj (ws : List U64) (p : Nat) : List U64 := (ws.drop p).take (sz ws p)
def raw (ws : List U64) (F : List Nat) : List U64 := F.flatMap (obj ws)
def add (F : List Nat) (p : Nat) : List Nat := if F.contains p = true then F else F ++ [p]
def posOf (ws : List U64) (F : List Nat) (p : Nat) : Nat := ((F.takeWhile (fun q => q != p)).map (sz ws)).sum
def cum (ws : List U64) : Nat → List Nat → List (Nat × Nat)
  | _, [] => []
  | a, p :: F => (a, p) :: cum ws (a + sz ws p) F
def refW (t : Nat) : U64 := ⟨(boxL 5 t).1⟩
def addW (F : List Nat) (x : U64) : List Nat := match refOf x with | none => F | some p => add F p
def trn (ws : List U64) (F : List Nat) (x : U64) : U64 := match refOf x with | none => x | some p => refW (posOf ws F p)
/-- places that a list of them grows by, those that words tell -/
def addAll (F : List Nat) (l : List U64) : List Nat := l.foldl addW F

theorem add_mem {F : List Nat} {p : Nat} : p ∈ add F p := by
  unfold add; split
  · rename_i h; exact List.contains_iff_mem.1 h
  · simp
theorem add_pre (F : List Nat) (p : Nat) : ∃ X, add F p = F ++ X := by
  unfold add; split
  · exact ⟨[], by simp⟩
  · exact ⟨[p], rfl⟩
theorem add_nodup {F : List Nat} {p : Nat} (h : F.Nodup) : (add F p).Nodup := by
  unfold add; split
  · exact h
  · rename_i hc
    have : p ∉ F := fun hm => hc (List.contains_iff_mem.2 hm)
    exact List.nodup_append.2 ⟨h, by simp, by intro a ha b hb; simp at hb; subst hb; intro e; subst e; exact this ha⟩
theorem addW_pre (F : List Nat) (x : U64) : ∃ X, addW F x = F ++ X := by
  unfold addW; split
  · exact ⟨[], by simp⟩
  · exact add_pre F _
theorem addW_nodup {F : List Nat} {x : U64} (h : F.Nodup) : (addW F x).Nodup := by
  unfold addW; split
  · exact h
  · exact add_nodup h
theorem fits_ref {pl : List Nat} {x : U64} {p : Nat} (h : fits pl x = true) (hr : refOf x = some p) : p ∈ pl := by
  unfold fits at h
  unfold refOf at hr
  split at hr
  · rename_i k n he
    rw [he] at h
    split at hr
    · rename_i hk
      injection hr with hr
      subst hr
      simp only [hk, ne_eq, not_true_eq_false, decide_false, Bool.false_or] at h
      exact List.contains_iff_mem.1 h
    · cases hr
  · cases hr
theorem addW_sub {F pl : List Nat} {x : U64} (h : ∀ p ∈ F, p ∈ pl) (hf : fits pl x = true) : ∀ p ∈ addW F x, p ∈ pl := by
  intro p hp
  unfold addW at hp
  split at hp
  · exact h p hp
  · rename_i q hq
    unfold add at hp
    split at hp
    · exact h p hp
    · rcases List.mem_append.1 hp with hp | hp
      · exact h p hp
      · simp at hp; subst hp; exact fits_ref hf hq
theorem addAll_snoc {F : List Nat} {l : List U64} {k : Nat} {x : U64} (h : l[k]? = some x) : addAll F (l.take (k + 1)) = addW (addAll F (l.take k)) x := by
  unfold addAll; rw [List.take_add_one, h, Option.toList_some, List.foldl_append]; rfl
theorem addAll_pre : ∀ (l : List U64) (F : List Nat), ∃ X, addAll F l = F ++ X
  | [], F => ⟨[], by simp [addAll]⟩
  | x :: l, F => by
    obtain ⟨X, hX⟩ := addW_pre F x
    obtain ⟨Y, hY⟩ := addAll_pre l (F ++ X)
    exact ⟨X ++ Y, by unfold addAll at hY ⊢; rw [List.foldl_cons, hX, hY, List.append_assoc]⟩
theorem addAll_nodup : ∀ (l : List U64) {F : List Nat}, F.Nodup → (addAll F l).Nodup
  | [], _, h => h
  | x :: l, F, h => by unfold addAll; rw [List.foldl_cons]; exact addAll_nodup l (addW_nodup h)
theorem addAll_sub {pl : List Nat} : ∀ (l : List U64) {F : List Nat}, (∀ p ∈ F, p ∈ pl) → (∀ x ∈ l, fits pl x = true) → ∀ p ∈ addAll F l, p ∈ pl
  | [], _, h, _ => h
  | x :: l, F, h, hf => by unfold addAll; rw [List.foldl_cons]; exact addAll_sub l (addW_sub h (hf x (by simp))) (fun y hy => hf y (by simp [hy]))

theorem obj_length {ws : List U64} {p : Nat} (h : p + sz ws p ≤ ws.length) : (obj ws p).length = sz ws p := by
  unfold obj; rw [List.length_take, List.length_drop]; omega
theorem raw_length {ws : List U64} : ∀ {F : List Nat}, (∀ p ∈ F, p + sz ws p ≤ ws.length) → (raw ws F).length = (F.map (sz ws)).sum
  | [], _ => rfl
  | p :: F, h => by
    unfold raw
    rw [List.flatMap_cons, List.length_append, obj_length (h p (by simp)), List.map_cons, List.sum_cons]
    have := raw_length (F := F) (fun q hq => h q (by simp [hq]))
    unfold raw at this
    omega
theorem raw_append (ws : List U64) (F X : List Nat) : raw ws (F ++ X) = raw ws F ++ raw ws X := by unfold raw; rw [List.flatMap_append]
theorem cum_append (ws : List U64) : ∀ (F X : List Nat) (a : Nat), cum ws a (F ++ X) = cum ws a F ++ cum ws (a + (F.map (sz ws)).sum) X
  | [], X, a => by simp [cum]
  | p :: F, X, a => by
    rw [List.cons_append, cum, cum, cum_append ws F X, List.map_cons, List.sum_cons, List.cons_append, Nat.add_assoc]
theorem cum_length (ws : List U64) : ∀ (F : List Nat) (a : Nat), (cum ws a F).length = F.length
  | [], _ => rfl
  | p :: F, a => by rw [cum, List.length_cons, List.length_cons, cum_length ws F]
theorem takeWhile_all {α : Type} (p : α → Bool) : ∀ l : List α, (∀ x ∈ l, p x = true) → l.takeWhile p = l
  | [], _ => rfl
  | x :: l, h => by rw [List.takeWhile_cons, if_pos (h x (by simp)), takeWhile_all p l (fun y hy => h y (by simp [hy]))]
theorem posOf_new {ws : List U64} {F : List Nat} {p : Nat} (h : p ∉ F) : posOf ws F p = (F.map (sz ws)).sum := by
  unfold posOf
  rw [takeWhile_all (fun q => q != p) F]
  intro q hq
  simp only [bne_iff_ne, ne_eq]
  intro e; subst e; exact h hq
theorem posOf_app {ws : List U64} {F X : List Nat} {p : Nat} (h : p ∈ F) : posOf ws (F ++ X) p = posOf ws F p := by
  unfold posOf
  congr 2
  induction F with
  | nil => cases h
  | cons q F ih =>
    rw [List.cons_append, List.takeWhile_cons, List.takeWhile_cons]
    by_cases hq : q = p
    · simp [hq]
    · have : (q != p) = true := by simpa using hq
      rw [this]
      rcases List.mem_cons.1 h with h | h
      · exact absurd h.symm hq
      · simp only [if_true, ih h]
/-- the map of what was moved -/
def mapD (ws : List U64) (F : List Nat) : DataW Unit := (cum ws 0 F).foldl (fun D m => D.put (.int .i64 (m.2 : Int)) (.lit (.int .i64 (m.1 : Int)))) (.map [])
theorem mapD_snoc (ws : List U64) (F : List Nat) (p : Nat) : mapD ws (F ++ [p]) = (mapD ws F).put (.int .i64 (p : Int)) (.lit (.int .i64 ((F.map (sz ws)).sum : Int))) := by
  unfold mapD
  rw [cum_append, List.foldl_append]
  simp [cum]
theorem mapD_isMap (ws : List U64) : ∀ F : List Nat, Maps.IsMap (mapD ws F) := by
  intro F
  unfold mapD
  have key : ∀ (l : List (Nat × Nat)) (D : DataW Unit), Maps.IsMap D → Maps.IsMap (l.foldl (fun D m => D.put (.int .i64 (m.2 : Int)) (.lit (.int .i64 (m.1 : Int)))) D) := by
    intro l
    induction l with
    | nil => intro D h; exact h
    | cons m l ih => intro D h; rw [List.foldl_cons]; exact ih _ (h.put _ _)
  exact key _ _ Maps.isMap_empty
theorem mapD_spec (ws : List U64) (p : Nat) : ∀ n (F : List Nat), F.length = n → F.Nodup → Maps.has (mapD ws F) (.int .i64 (p : Int)) = F.contains p ∧ (p ∈ F → ∀ z, (mapD ws F).atKey (.int .i64 (p : Int)) z = .lit (.int .i64 (posOf ws F p : Int)))
  | 0, F, hn, _ => by
    have := List.eq_nil_of_length_eq_zero hn
    subst this
    exact ⟨rfl, fun h => by cases h⟩
  | n + 1, F, hn, hnd => by
    rcases List.eq_nil_or_concat F with rfl | ⟨G, q, rfl⟩
    · simp at hn
    rw [List.concat_eq_append] at hn hnd ⊢
    have hG : G.length = n := by simpa using hn
    have hnd' := List.nodup_append.1 hnd
    have hqG : q ∉ G := fun h => hnd'.2.2 q h q (by simp) rfl
    obtain ⟨ih1, ih2⟩ := mapD_spec ws p n G hG hnd'.1
    rw [mapD_snoc]
    by_cases hpq : p = q
    · subst hpq
      refine ⟨?_, fun _ z => ?_⟩
      · rw [Maps.has_put_same (mapD_isMap ws G) (show WideAt.IsKeyLit (.int .i64 (p : Int)) from trivial)]
        simp
      · rw [Maps.atKey_put_same (mapD_isMap ws G) (show WideAt.IsKeyLit (.int .i64 (p : Int)) from trivial)]
        congr 2
        unfold posOf
        congr 3
        rw [List.takeWhile_append_of_pos (by intro u hu; simp only [bne_iff_ne, ne_eq]; intro e; subst e; exact hqG hu), List.takeWhile_cons]
        simp
    · have hne : Lit.int .i64 (p : Int) ≠ Lit.int .i64 (q : Int) := by intro e; injection e with _ e; omega
      refine ⟨?_, fun hm z => ?_⟩
      · rw [Maps.has_put_other hne, ih1]
        rw [Bool.eq_iff_iff, List.contains_iff_mem, List.contains_iff_mem]
        simp [hpq]
      · rw [Maps.atKey_put_other hne]
        have hpG : p ∈ G := by
          rcases List.mem_append.1 hm with h | h
          · exact h
          · simp at h; exact absurd h hpq
        rw [ih2 hpG z, posOf_app hpG]
end Hau

end Go.Proofs.YtdlcooplllimeaaGreatDoor

/- A heap that moves: what a collection leaves, step by step. -/
namespace Go.Proofs.YtdlcooplllimeaaGreatDoor
open Go.RowKit

namespace Hau
def tail (ws : List U64) (p : Nat) : List U64 := (obj ws p).drop 1
/-- an object of which the first q words behind its first one are turned -/
def pobj (ws : List U64) (F : List Nat) (q p : Nat) : List U64 := (obj ws p).take 1 ++ ((tail ws p).take q).map (trn ws F) ++ (tail ws p).drop q
def tobj (ws : List U64) (F : List Nat) (p : Nat) : List U64 := (obj ws p).take 1 ++ (tail ws p).map (trn ws F)
/-- all that words tell is among some places -/
def known (F : List Nat) (l : List U64) : Prop := ∀ x ∈ l, ∀ r, refOf x = some r → r ∈ F
theorem known.app {F X : List Nat} {l : List U64} (h : known F l) : known (F ++ X) l := fun x hx r hr => List.mem_append.2 (.inl (h x hx r hr))
theorem trn_app {ws : List U64} {F X : List Nat} {x : U64} (h : ∀ r, refOf x = some r → r ∈ F) : trn ws (F ++ X) x = trn ws F x := by
  unfold trn
  split
  · rfl
  · rename_i p hp
    rw [posOf_app (h p hp)]
theorem map_trn_app {ws : List U64} {F X : List Nat} {l : List U64} (h : known F l) : l.map (trn ws (F ++ X)) = l.map (trn ws F) := List.map_congr_left fun x hx => trn_app (h x hx)
theorem addW_known {F : List Nat} {x : U64} : ∀ r, refOf x = some r → r ∈ addW F x := by
  intro r hr
  unfold addW
  rw [hr]
  exact add_mem
theorem addAll_known : ∀ (l : List U64) (F : List Nat), known (addAll F l) l
  | [], _ => fun x hx => by cases hx
  | x :: l, F => by
    intro y hy r hr
    unfold addAll
    rw [List.foldl_cons]
    rcases List.mem_cons.1 hy with rfl | hy
    · obtain ⟨X, hX⟩ := addAll_pre l (addW F y)
      unfold addAll at hX
      rw [hX]
      exact List.mem_append.2 (.inl (addW_known r hr))
    · exact addAll_known l (addW F x) y hy r hr
theorem tobj_app {ws : List U64} {F X : List Nat} {p : Nat} (h : known F (tail ws p)) : tobj ws (F ++ X) p = tobj ws F p := by
  unfold tobj; rw [map_trn_app h]
theorem pobj_zero (ws : List U64) (F : List Nat) (p : Nat) : pobj ws F 0 p = obj ws p := by
  unfold pobj tail
  rw [List.take_zero, List.map_nil, List.append_nil, List.drop_zero, List.take_append_drop]
theorem pobj_full {ws : List U64} {F : List Nat} {p q : Nat} (h : (tail ws p).length ≤ q) : pobj ws F q p = tobj ws F p := by
  unfold pobj tobj; rw [List.take_of_length_le h, List.drop_eq_nil_of_le h, List.append_nil]
theorem tail_length {ws : List U64} {p : Nat} (h : p + sz ws p ≤ ws.length) : (tail ws p).length = lg (wat ws p) := by
  unfold tail; rw [List.length_drop, obj_length h]; unfold sz; omega
theorem tobj_length {ws : List U64} {F : List Nat} {p : Nat} (h : p + sz ws p ≤ ws.length) : (tobj ws F p).length = sz ws p := by
  unfold tobj
  have := sz_pos ws p
  rw [List.length_append, List.length_map, tail_length h, List.length_take, obj_length h]; unfold sz; omega
theorem pobj_length {ws : List U64} {F : List Nat} {p q : Nat} (h : p + sz ws p ≤ ws.length) : (pobj ws F q p).length = sz ws p := by
  unfold pobj
  have := sz_pos ws p
  have ht := tail_length h
  rw [List.length_append, List.length_append, List.length_map, List.length_take, List.length_take, List.length_drop, ht, obj_length h]; unfold sz; omega
theorem tobjs_length {ws : List U64} {F : List Nat} : ∀ {G : List Nat}, (∀ p ∈ G, p + sz ws p ≤ ws.length) → (G.flatMap (tobj ws F)).length = (G.map (sz ws)).sum
  | [], _ => rfl
  | p :: G, h => by
    rw [List.flatMap_cons, List.length_append, tobj_length (h p (by simp)), List.map_cons, List.sum_cons, tobjs_length (fun q hq => h q (by simp [hq]))]

/-- the words while object p is turned: G are done, R wait -/
def cont (ws : List U64) (G : List Nat) (p : Nat) (R : List Nat) (q : Nat) : List U64 := G.flatMap (tobj ws (G ++ p :: R)) ++ pobj ws (G ++ p :: R) q p ++ raw ws R

theorem obj_head {ws : List U64} {p : Nat} (h : p + sz ws p ≤ ws.length) : (obj ws p)[0]? = some (wat ws p) := by
  have := sz_pos ws p
  unfold obj wat
  rw [List.getElem?_take, if_pos (by omega), List.getElem?_drop, Nat.add_zero, List.getD_eq_getElem?_getD, List.getElem?_eq_getElem (by omega)]; rfl
/-- the word that is turned next -/
theorem cont_get {ws : List U64} {G R : List Nat} {p q : Nat} {x : U64} (hG : ∀ p ∈ G, p + sz ws p ≤ ws.length) (hp : p + sz ws p ≤ ws.length) (hx : (tail ws p)[q]? = some x) :
    (cont ws G p R q)[(G.map (sz ws)).sum + (1 + q)]? = some x := by
  have hl := tobjs_length (F := G ++ p :: R) hG
  have hs := sz_pos ws p
  have hq := (List.getElem?_eq_some_iff.1 hx).1
  unfold cont
  rw [List.append_assoc, List.getElem?_append_right (by omega), hl, Nat.add_sub_cancel_left]
  have h1 : ((obj ws p).take 1).length = 1 := by rw [List.length_take, obj_length hp]; omega
  have h2 : (((tail ws p).take q).map (trn ws (G ++ p :: R))).length = q := by rw [List.length_map, List.length_take]; omega
  unfold pobj
  rw [List.append_assoc, List.append_assoc, List.getElem?_append_right (by omega), h1, Nat.add_sub_cancel_left, List.getElem?_append_right (by omega), h2, Nat.sub_self, List.getElem?_append_left (by rw [List.length_drop]; omega), List.getElem?_drop, Nat.add_zero]
  exact hx
theorem cont_head {ws : List U64} {G R : List Nat} {p q : Nat} (hG : ∀ p ∈ G, p + sz ws p ≤ ws.length) (hp : p + sz ws p ≤ ws.length) : (cont ws G p R q)[(G.map (sz ws)).sum]? = some (wat ws p) := by
  have hl := tobjs_length (F := G ++ p :: R) hG
  have hs := sz_pos ws p
  have h1 : ((obj ws p).take 1).length = 1 := by rw [List.length_take, obj_length hp]; omega
  unfold cont
  rw [List.append_assoc, List.getElem?_append_right (by omega), hl, Nat.sub_self]
  unfold pobj
  rw [List.append_assoc, List.append_assoc, List.getElem?_append_left (by omega), List.getElem?_take, if_pos (by omega)]
  exact obj_head hp
theorem set_app_right {α : Type} (A B : List α) (i : Nat) (x : α) : (A ++ B).set (A.length + i) x = A ++ B.set i x := by
  rw [List.set_append_right _ _ (by omega), Nat.add_sub_cancel_left]
/-- a step: a word is turned; what it tells anew is put behind all -/
theorem cont_step {ws : List U64} {G R : List Nat} {p q : Nat} {x : U64} (hG : ∀ p ∈ G, p + sz ws p ≤ ws.length) (hp : p + sz ws p ≤ ws.length) (hx : (tail ws p)[q]? = some x)
    (hk : ∀ g ∈ G, known (G ++ p :: R) (tail ws g)) (hkq : known (G ++ p :: R) ((tail ws p).take q)) (X : List Nat) (hX : addW (G ++ p :: R) x = (G ++ p :: R) ++ X) :
    (cont ws G p R q ++ raw ws X).set ((G.map (sz ws)).sum + (1 + q)) (trn ws (G ++ p :: (R ++ X)) x) = cont ws G p (R ++ X) (q + 1) ∧
      (∀ g ∈ G, known (G ++ p :: (R ++ X)) (tail ws g)) ∧ known (G ++ p :: (R ++ X)) ((tail ws p).take (q + 1)) := by
  have e : G ++ p :: (R ++ X) = (G ++ p :: R) ++ X := by simp
  have hl := tobjs_length (F := G ++ p :: R) hG
  have hs := sz_pos ws p
  have hq := (List.getElem?_eq_some_iff.1 hx).1
  rw [e]
  refine ⟨?_, fun g hg => (hk g hg).app, ?_⟩
  · have hm : G.flatMap (tobj ws ((G ++ p :: R) ++ X)) = G.flatMap (tobj ws (G ++ p :: R)) := by
      rw [List.flatMap_def, List.flatMap_def, List.map_congr_left (fun g hg => tobj_app (X := X) (hk g hg))]
    have h1 : ((obj ws p).take 1).length = 1 := by rw [List.length_take, obj_length hp]; omega
    have h2 : (((tail ws p).take q).map (trn ws (G ++ p :: R))).length = q := by rw [List.length_map, List.length_take]; omega
    have hd : (tail ws p).drop q = x :: (tail ws p).drop (q + 1) := by
      rw [List.drop_eq_getElem_cons hq]
      congr 1
      rw [List.getElem?_eq_getElem hq] at hx
      exact Option.some.inj hx
    unfold cont
    rw [e, hm, raw_append]
    unfold pobj
    have ht : (tail ws p).take (q + 1) = (tail ws p).take q ++ [x] := by rw [List.take_add_one, hx]; rfl
    rw [ht, List.map_append, map_trn_app hkq, hd]
    have eA : G.flatMap (tobj ws (G ++ p :: R)) ++ ((obj ws p).take 1 ++ ((tail ws p).take q).map (trn ws (G ++ p :: R)) ++ x :: (tail ws p).drop (q + 1)) ++ raw ws R ++ raw ws X
        = (G.flatMap (tobj ws (G ++ p :: R)) ++ (obj ws p).take 1 ++ ((tail ws p).take q).map (trn ws (G ++ p :: R))) ++ x :: ((tail ws p).drop (q + 1) ++ raw ws R ++ raw ws X) := by simp
    have lA : (G.flatMap (tobj ws (G ++ p :: R)) ++ (obj ws p).take 1 ++ ((tail ws p).take q).map (trn ws (G ++ p :: R))).length = (G.map (sz ws)).sum + (1 + q) := by
      rw [List.length_append, List.length_append, hl, h1, h2]; omega
    rw [eA, ← lA, List.set_append_right _ _ (Nat.le_refl _), Nat.sub_self, List.set_cons_zero]
    simp
  · rw [List.take_add_one, hx, Option.toList_some]
    intro y hy r hr
    rcases List.mem_append.1 hy with hy | hy
    · exact List.mem_append.2 (.inl (hkq y hy r hr))
    · simp at hy; subst hy; rw [← hX]; exact addW_known r hr
theorem cont_length {ws : List U64} {G R : List Nat} {p q : Nat} (hG : ∀ r ∈ G ++ p :: R, r + sz ws r ≤ ws.length) : (cont ws G p R q).length = ((G ++ p :: R).map (sz ws)).sum := by
  unfold cont
  rw [List.length_append, List.length_append, tobjs_length (fun g hg => hG g (by simp [hg])), pobj_length (hG p (by simp)), raw_length (fun g hg => hG g (by simp [hg])), List.map_append, List.sum_append, List.map_cons, List.sum_cons]
  omega

/-- the order in which objects are told, from the i-th one on -/
def bfs (ws : List U64) : Nat → List Nat → Nat → List Nat
  | 0, F, _ => F
  | f + 1, F, i => if i < F.length then bfs ws f (addAll F (tail ws (F.getD i 0))) (i + 1) else F
def told (ws roots : List U64) : List Nat := bfs ws (ws.length + 1) (addAll [] roots) 0
def newWords (ws roots : List U64) : List U64 := (told ws roots).flatMap (tobj ws (told ws roots))
def newRoots (ws roots : List U64) : List U64 := roots.map (trn ws (told ws roots))
def movesL (ws roots : List U64) : List (Int × Int) := (cum ws 0 (told ws roots)).map fun m => ((m.1 : Int), (m.2 : Int))

theorem wordsOk_tail {ws : List U64} (hok : okW ws = true) (hw : wordsOk ws = true) {p : Nat} (hp : p ∈ places ws) : ∀ x ∈ tail ws p, fits (places ws) x = true := by
  have hsp := places_spec hok
  intro x hx
  obtain ⟨i, hi⟩ := List.mem_iff_getElem?.1 hx
  have hb := hsp.1 p hp
  have hil : i < (tail ws p).length := (List.getElem?_eq_some_iff.1 hi).1
  rw [tail_length hb] at hil
  unfold tail obj at hi
  rw [List.getElem?_drop, List.getElem?_take, if_pos (by unfold sz; omega), List.getElem?_drop] at hi
  have hlt : p + (1 + i) < ws.length := (List.getElem?_eq_some_iff.1 hi).1
  have hwat : wat ws (p + (1 + i)) = x := by unfold wat; rw [List.getD_eq_getElem?_getD, hi]; rfl
  have h := List.all_eq_true.1 hw (p + (1 + i)) (List.mem_range.2 hlt)
  rw [hwat] at h
  -- it is no place itself
  have hno : (places ws).contains (p + (1 + i)) = false := by
    rw [Bool.eq_false_iff]
    intro hc
    have hc := List.contains_iff_mem.1 hc
    unfold okW at hok
    obtain ⟨h1, h2, h3⟩ := objs_spec ws (ws.length + 1) 0 (by omega) (by simpa using hok)
    have key : ∀ f q, ∀ a ∈ objs ws f q, ∀ b ∈ objs ws f q, a < b → a + sz ws a ≤ b := by
      intro f
      induction f with
      | zero => intro q a ha; cases ha
      | succ f ih =>
        intro q a ha b hb' hab
        unfold objs at ha hb'
        split at ha
        · rename_i hq
          rw [if_pos hq] at hb'
          rcases List.mem_cons.1 ha with rfl | ha
          · rcases List.mem_cons.1 hb' with rfl | hb'
            · omega
            · have ge : ∀ f q, ∀ b ∈ objs ws f q, q ≤ b := by
                intro f
                induction f with
                | zero => intro q b hb; cases hb
                | succ f ih2 =>
                  intro q b hb
                  unfold objs at hb
                  split at hb
                  · rcases List.mem_cons.1 hb with rfl | hb
                    · exact Nat.le_refl _
                    · have := ih2 _ b hb; have := sz_pos ws q; omega
                  · cases hb
              exact ge _ _ b hb'
          · rcases List.mem_cons.1 hb' with rfl | hb'
            · have ge : ∀ f q, ∀ b ∈ objs ws f q, q ≤ b := by
                intro f
                induction f with
                | zero => intro q b hb; cases hb
                | succ f ih2 =>
                  intro q b hb
                  unfold objs at hb
                  split at hb
                  · rcases List.mem_cons.1 hb with rfl | hb
                    · exact Nat.le_refl _
                    · have := ih2 _ b hb; have := sz_pos ws q; omega
                  · cases hb
              have := ge _ _ a ha
              have := sz_pos ws b
              omega
            · exact ih _ a ha b hb' hab
        · cases ha
    have := key _ _ p hp _ hc (by omega)
    unfold sz at this
    omega
  rw [hno, Bool.false_or] at h
  exact h
end Hau

end Go.Proofs.YtdlcooplllimeaaGreatDoor

/- A store's words as objects one behind another: where each begins, what is read there. -/
namespace Go.Proofs.YtdlcooplllimeaaGreatDoor
open Go.RowKit

namespace Sto
open Hau
/-- an object: a first word that tells how many follow -/
def Good (o : List U64) : Prop := ∃ h b, o = h :: b ∧ lg h = b.length
/-- where objects begin -/
def starts : Nat → List (List U64) → List Nat
  | _, [] => []
  | a, o :: l => a :: starts (a + o.length) l
theorem starts_length (a : Nat) (l : List (List U64)) : (starts a l).length = l.length := by
  induction l generalizing a with
  | nil => rfl
  | cons o l ih => rw [starts, List.length_cons, ih, List.length_cons]
theorem starts_append (a : Nat) (l r : List (List U64)) : starts a (l ++ r) = starts a l ++ starts (a + l.flatten.length) r := by
  induction l generalizing a with
  | nil => simp [starts]
  | cons o l ih => rw [List.cons_append, starts, starts, ih, List.flatten_cons, List.length_append, List.cons_append, Nat.add_assoc]
/-- where the j-th begins -/
def st (l : List (List U64)) (j : Nat) : Nat := (l.take j).flatten.length
theorem starts_get (a : Nat) (l : List (List U64)) (j : Nat) (hj : j < l.length) : (starts a l)[j]? = some (a + st l j) := by
  induction l generalizing a j with
  | nil => simp at hj
  | cons o l ih =>
    cases j with
    | zero => simp [starts, st]
    | succ j =>
      rw [starts, List.getElem?_cons_succ, ih _ j (by simpa using hj)]
      simp [st, Nat.add_assoc]
theorem mem_starts {l : List (List U64)} {p : Nat} : p ∈ starts 0 l ↔ ∃ j, j < l.length ∧ p = st l j := by
  constructor
  · intro h
    obtain ⟨j, hj⟩ := List.mem_iff_getElem?.1 h
    have hl : j < l.length := by have := (List.getElem?_eq_some_iff.1 hj).1; rwa [starts_length] at this
    rw [starts_get 0 l j hl, Nat.zero_add] at hj
    exact ⟨j, hl, (Option.some.inj hj).symm⟩
  · rintro ⟨j, hj, rfl⟩
    exact List.mem_iff_getElem?.2 ⟨j, by rw [starts_get 0 l j hj, Nat.zero_add]⟩
theorem st_succ {l : List (List U64)} {j : Nat} {o : List U64} (h : l[j]? = some o) : st l (j + 1) = st l j + o.length := by
  unfold st; rw [List.take_add_one, h]; simp
theorem st_mono {l : List (List U64)} {i j : Nat} (h : i ≤ j) : st l i ≤ st l j := by
  unfold st
  obtain ⟨d, rfl⟩ : ∃ d, j = i + d := ⟨j - i, by omega⟩
  rw [List.take_add, List.flatten_append, List.length_append]; omega
theorem st_lt {l : List (List U64)} (hg : ∀ o ∈ l, Good o) {i j : Nat} (h : i < j) (hi : i < l.length) : st l i < st l j := by
  have h1 := st_mono (l := l) (show i + 1 ≤ j from h)
  have h2 := st_succ (List.getElem?_eq_getElem hi)
  obtain ⟨a, b, e, -⟩ := hg _ (List.getElem_mem hi)
  have : (l[i]).length = b.length + 1 := by rw [e]; rfl
  omega
theorem st_inj {l : List (List U64)} (hg : ∀ o ∈ l, Good o) {i j : Nat} (hi : i < l.length) (hj : j < l.length) (h : st l i = st l j) : i = j := by
  rcases Nat.lt_trichotomy i j with h1 | h1 | h1
  · have := st_lt hg h1 hi; omega
  · exact h1
  · have := st_lt hg h1 hj; omega
theorem st_all (l : List (List U64)) : st l l.length = l.flatten.length := by unfold st; rw [List.take_length]
theorem st_app {l r : List (List U64)} {j : Nat} (h : j ≤ l.length) : st (l ++ r) j = st l j := by
  unfold st; rw [List.take_append_of_le_length h]
/-- what is read at a beginning -/
theorem drop_st {l : List (List U64)} {j : Nat} {o : List U64} (h : l[j]? = some o) : l.flatten.drop (st l j) = o ++ (l.drop (j + 1)).flatten := by
  have hj := (List.getElem?_eq_some_iff.1 h).1
  have ho := (List.getElem?_eq_some_iff.1 h).2
  have e : l = l.take j ++ o :: l.drop (j + 1) := by rw [← ho, ← List.drop_eq_getElem_cons hj, List.take_append_drop]
  unfold st
  conv => lhs; rw [show l.flatten = (l.take j).flatten ++ (o ++ (l.drop (j + 1)).flatten) by conv => lhs; rw [e]; simp]
  rw [List.drop_left]
theorem wat_st {l : List (List U64)} {j : Nat} {h : U64} {b : List U64} (hj : l[j]? = some (h :: b)) : wat l.flatten (st l j) = h := by
  have := drop_st hj
  unfold wat
  rw [List.getD_eq_getElem?_getD]
  have h0 : (l.flatten.drop (st l j))[0]? = some h := by rw [this]; rfl
  rw [List.getElem?_drop, Nat.add_zero] at h0
  rw [h0]; rfl
theorem sz_st {l : List (List U64)} (hg : ∀ o ∈ l, Good o) {j : Nat} {o : List U64} (hj : l[j]? = some o) : sz l.flatten (st l j) = o.length := by
  obtain ⟨h, b, rfl, hl⟩ := hg o (List.mem_of_getElem? hj)
  unfold sz
  rw [wat_st hj, hl, List.length_cons]; omega
theorem obj_st {l : List (List U64)} (hg : ∀ o ∈ l, Good o) {j : Nat} {o : List U64} (hj : l[j]? = some o) : obj l.flatten (st l j) = o := by
  unfold obj
  rw [sz_st hg hj, drop_st hj, List.take_left]
theorem tail_st {l : List (List U64)} (hg : ∀ o ∈ l, Good o) {j : Nat} {h : U64} {b : List U64} (hj : l[j]? = some (h :: b)) : Hau.tail l.flatten (st l j) = b := by
  unfold Hau.tail; rw [obj_st hg hj]; rfl
theorem st_le {l : List (List U64)} (j : Nat) : st l j ≤ l.flatten.length := by
  rw [← st_all]
  by_cases h : j ≤ l.length
  · exact st_mono h
  · unfold st; rw [List.take_of_length_le (by omega), List.take_length]; exact Nat.le_refl _
/-- the objects that haul finds are these -/
theorem objs_st {l : List (List U64)} (hg : ∀ o ∈ l, Good o) : ∀ (f j : Nat), l.length ≤ f + j → j ≤ l.length → objs l.flatten (f + 1) (st l j) = (starts 0 l).drop j ∧ oend l.flatten (f + 1) (st l j) = l.flatten.length := by
  intro f
  induction f with
  | zero =>
    intro j hf hj
    have : j = l.length := by omega
    subst this
    rw [st_all, objs_done (Nat.le_refl _), oend_done (Nat.le_refl _), List.drop_eq_nil_of_le (by rw [starts_length]; exact Nat.le_refl _)]
    exact ⟨rfl, rfl⟩
  | succ f ih =>
    intro j hf hj
    by_cases hlt : j < l.length
    · obtain ⟨o, ho⟩ : ∃ o, l[j]? = some o := ⟨_, List.getElem?_eq_getElem hlt⟩
      have hs := sz_st hg ho
      have hst := st_succ ho
      have hlen : st l j < l.flatten.length := by
        have := st_le (l := l) (j + 1)
        obtain ⟨h, b, rfl, -⟩ := hg o (List.mem_of_getElem? ho)
        rw [List.length_cons] at hst; omega
      obtain ⟨i1, i2⟩ := ih (j + 1) (by omega) (by omega)
      rw [objs, if_pos hlen, oend, if_pos hlen, hs, ← hst, i1, i2]
      refine ⟨?_, rfl⟩
      have hd : (starts 0 l).drop j = (st l j) :: (starts 0 l).drop (j + 1) := by
        have hjl : j < (starts 0 l).length := by rw [starts_length]; exact hlt
        rw [List.drop_eq_getElem_cons hjl]
        congr 1
        have := starts_get 0 l j hlt
        rw [List.getElem?_eq_getElem hjl, Nat.zero_add] at this
        exact Option.some.inj this
      rw [hd]
    · have : j = l.length := by omega
      subst this
      rw [st_all, objs_done (Nat.le_refl _), oend_done (Nat.le_refl _), List.drop_eq_nil_of_le (by rw [starts_length]; exact Nat.le_refl _)]
      exact ⟨rfl, rfl⟩
theorem len_le_flat {l : List (List U64)} (hg : ∀ o ∈ l, Good o) : l.length ≤ l.flatten.length := by
  induction l with
  | nil => simp
  | cons o l ih =>
    obtain ⟨h, b, rfl, -⟩ := hg o (by simp)
    have := ih fun o ho => hg o (by simp [ho])
    rw [List.flatten_cons, List.length_append, List.length_cons, List.length_cons]; omega
theorem places_st {l : List (List U64)} (hg : ∀ o ∈ l, Good o) : places l.flatten = starts 0 l ∧ okW l.flatten = true := by
  have h0 := objs_st hg l.flatten.length 0 (by have := len_le_flat hg; omega) (Nat.zero_le _)
  rw [show st l 0 = 0 from rfl] at h0
  refine ⟨by unfold places; rw [h0.1]; rfl, by unfold okW; rw [h0.2]; simp⟩
/-- a word that lies in no first place is a follower -/
theorem body_word {l : List (List U64)} (hg : ∀ o ∈ l, Good o) {i : Nat} {x : U64} (hx : l.flatten[i]? = some x) (hp : i ∉ starts 0 l) : ∃ o ∈ l, x ∈ o.tail := by
  have key : ∀ (l : List (List U64)) (a i : Nat), (∀ o ∈ l, Good o) → l.flatten[i]? = some x → (a + i) ∉ starts a l → ∃ o ∈ l, x ∈ o.tail := by
    intro l
    induction l with
    | nil => intro a i _ h _; simp at h
    | cons o l ih =>
      intro a i hg hx hp
      obtain ⟨h, b, rfl, -⟩ := hg o (by simp)
      rw [List.flatten_cons] at hx
      by_cases hi : i < (h :: b).length
      · rw [List.getElem?_append_left hi] at hx
        cases i with
        | zero => exact absurd (by simp [starts]) hp
        | succ i => exact ⟨h :: b, by simp, by rw [List.getElem?_cons_succ] at hx; exact List.mem_of_getElem? hx⟩
      · rw [List.getElem?_append_right (by omega)] at hx
        obtain ⟨o2, h1, h2⟩ := ih (a + (h :: b).length) (i - (h :: b).length) (fun o ho => hg o (by simp [ho])) hx (fun hm => hp (by
          rw [starts]
          exact List.mem_cons_of_mem _ (by rw [show a + i = a + (h :: b).length + (i - (h :: b).length) by omega]; exact hm)))
        exact ⟨o2, by simp [h1], h2⟩
  exact key l 0 i hg hx (by rw [Nat.zero_add]; exact hp)
theorem wordsOk_st {l : List (List U64)} (hg : ∀ o ∈ l, Good o) (hf : ∀ o ∈ l, ∀ x ∈ o.tail, fits (starts 0 l) x = true) : wordsOk l.flatten = true := by
  unfold wordsOk
  rw [(places_st hg).1]
  rw [List.all_eq_true]
  intro i hi
  have hi := List.mem_range.1 hi
  cases hc : (starts 0 l).contains i with
  | true => rfl
  | false =>
    rw [Bool.false_or]
    have hn : i ∉ starts 0 l := fun h => by rw [List.contains_iff_mem.2 h] at hc; cases hc
    obtain ⟨o, h1, h2⟩ := body_word hg (List.getElem?_eq_getElem hi) hn
    unfold wat
    rw [List.getD_eq_getElem?_getD, List.getElem?_eq_getElem hi]
    exact hf o h1 _ h2
end Sto

end Go.Proofs.YtdlcooplllimeaaGreatDoor

/- A heap that moves: what a collection's rounds keep. -/
namespace Go.Proofs.YtdlcooplllimeaaGreatDoor
open Go.RowKit

namespace Hau
def Ou (ws roots : List U64) (F1 G R : List Nat) : Prop :=
  (G ++ R).Nodup ∧ (∀ r ∈ G ++ R, r ∈ places ws) ∧ (∀ g ∈ G, known (G ++ R) (tail ws g)) ∧ (∃ X, G ++ R = F1 ++ X) ∧ ∃ f, bfs ws f (G ++ R) G.length = told ws roots ∧ ws.length < f + G.length
def In (ws roots : List U64) (F1 F0 G : List Nat) (p : Nat) (R : List Nat) (q : Nat) : Prop :=
  (G ++ p :: R).Nodup ∧ (∀ r ∈ G ++ p :: R, r ∈ places ws) ∧ (∀ g ∈ G, known (G ++ p :: R) (tail ws g)) ∧ known (G ++ p :: R) ((tail ws p).take q) ∧ G ++ p :: R = addAll F0 ((tail ws p).take q) ∧ (∃ X, F0 = F1 ++ X) ∧ (∃ R0, F0 = G ++ p :: R0) ∧
    ∃ f, bfs ws f F0 G.length = told ws roots ∧ ws.length < f + G.length
theorem Ou.start {ws roots : List U64} (_hok : okW ws = true) (hr : rootsOk ws roots = true) : Ou ws roots (addAll [] roots) [] (addAll [] roots) :=
  ⟨addAll_nodup roots List.nodup_nil, addAll_sub roots (by simp) (fun x hx => List.all_eq_true.1 hr x hx), by simp, ⟨[], by simp⟩, ws.length + 1, rfl, by simp⟩
theorem Ou.into {ws roots : List U64} {F1 G R : List Nat} {p : Nat} (h : Ou ws roots F1 G (p :: R)) : In ws roots F1 (G ++ p :: R) G p R 0 := by
  obtain ⟨h1, h2, h3, h4, h5⟩ := h
  exact ⟨h1, h2, h3, by intro x hx; simp at hx, by simp [addAll], h4, ⟨R, rfl⟩, h5⟩
theorem addW_app {F : List Nat} {x : U64} {l : List U64} {k : Nat} {F0 : List Nat} (h : F = addAll F0 (l.take k)) (hx : l[k]? = some x) : addW F x = addAll F0 (l.take (k + 1)) := by
  rw [addAll_snoc hx, h]
theorem In.next {ws roots : List U64} {F1 F0 G R X : List Nat} {p q : Nat} {x : U64} (h : In ws roots F1 F0 G p R q) (hok : okW ws = true) (hw : wordsOk ws = true) (hx : (tail ws p)[q]? = some x) (hX : addW (G ++ p :: R) x = (G ++ p :: R) ++ X) : In ws roots F1 F0 G p (R ++ X) (q + 1) := by
  obtain ⟨h1, h2, h3, h4, h5, h6, h7, h8⟩ := h
  have e : G ++ p :: (R ++ X) = (G ++ p :: R) ++ X := by simp
  have hpp : p ∈ places ws := h2 p (by simp)
  have hfx : fits (places ws) x = true := wordsOk_tail hok hw hpp x (List.mem_of_getElem? hx)
  unfold In
  rw [e]
  refine ⟨by rw [← hX]; exact addW_nodup h1, by rw [← hX]; exact addW_sub h2 hfx, fun g hg => (h3 g hg).app, ?_, by rw [← hX]; exact addW_app h5 hx, h6, h7, h8⟩
  rw [List.take_add_one, hx, Option.toList_some]
  intro y hy r hr
  rcases List.mem_append.1 hy with hy | hy
  · exact List.mem_append.2 (.inl (h4 y hy r hr))
  · simp at hy; subst hy; rw [← hX]; exact addW_known r hr
theorem len_le {ws : List U64} (hok : okW ws = true) {F : List Nat} (h1 : F.Nodup) (h2 : ∀ r ∈ F, r ∈ places ws) : (F.map (sz ws)).sum ≤ ws.length ∧ F.length ≤ (F.map (sz ws)).sum := by
  refine ⟨?_, ?_⟩
  · have := sum_sub (sz ws) F (places ws) h1 h2
    rw [(places_spec hok).2.2] at this; exact this
  · clear h1 h2
    induction F with
    | nil => simp
    | cons g G ih => have := sz_pos ws g; simp only [List.length_cons, List.map_cons, List.sum_cons]; omega
theorem In.out {ws roots : List U64} {F1 F0 G R : List Nat} {p q : Nat} (h : In ws roots F1 F0 G p R q) (hok : okW ws = true) (hq : (tail ws p).length ≤ q) : Ou ws roots F1 (G ++ [p]) R := by
  obtain ⟨h1, h2, h3, h4, h5, ⟨X, h6⟩, ⟨R0, h7⟩, f, h8, h9⟩ := h
  have e : (G ++ [p]) ++ R = G ++ p :: R := by simp
  rw [List.take_of_length_le hq] at h4 h5
  have hl := len_le hok h1 h2
  obtain ⟨Y, hY⟩ := addAll_pre (tail ws p) F0
  unfold Ou
  rw [e]
  refine ⟨h1, h2, fun g hg => ?_, ⟨X ++ Y, by rw [h5, hY, h6, List.append_assoc]⟩, ?_⟩
  · rcases List.mem_append.1 hg with hg | hg
    · exact h3 g hg
    · simp at hg; subst hg; exact h4
  · cases f with
    | zero =>
      rw [List.length_append, List.length_cons] at hl
      omega
    | succ f =>
      refine ⟨f, ?_, by simp; omega⟩
      have hlt : G.length < F0.length := by rw [h7, List.length_append, List.length_cons]; omega
      have hgd : F0.getD G.length 0 = p := by rw [h7, List.getD_eq_getElem?_getD, List.getElem?_append_right (Nat.le_refl _), Nat.sub_self]; rfl
      unfold bfs at h8
      rw [if_pos hlt, hgd, ← h5] at h8
      rw [← h8]; simp
theorem Ou.done {ws roots : List U64} {F1 G : List Nat} (h : Ou ws roots F1 G []) : G = told ws roots := by
  obtain ⟨h1, h2, h3, h4, f, h5, h6⟩ := h
  rw [List.append_nil] at h5
  rw [← h5]
  cases f with
  | zero => rfl
  | succ f => unfold bfs; rw [if_neg (by omega)]
/-- the words between two objects -/
def mid (ws : List U64) (G R : List Nat) : List U64 := G.flatMap (tobj ws (G ++ R)) ++ raw ws R
theorem mid_nil (ws : List U64) (R : List Nat) : mid ws [] R = raw ws R := by simp [mid]
theorem mid_cont (ws : List U64) (G R : List Nat) (p : Nat) : mid ws G (p :: R) = cont ws G p R 0 := by
  unfold mid cont
  rw [pobj_zero, raw, List.flatMap_cons, List.append_assoc]; rfl
theorem cont_mid {ws : List U64} {G R : List Nat} {p q : Nat} (hq : (tail ws p).length ≤ q) : cont ws G p R q = mid ws (G ++ [p]) R := by
  unfold mid cont
  rw [pobj_full hq, show (G ++ [p]) ++ R = G ++ p :: R by simp, List.flatMap_append]
  simp
theorem mid_end (ws : List U64) (G : List Nat) : mid ws G [] = G.flatMap (tobj ws G) := by simp [mid, raw]
theorem mid_length {ws : List U64} {G R : List Nat} (h : ∀ p ∈ G ++ R, p + sz ws p ≤ ws.length) : (mid ws G R).length = ((G ++ R).map (sz ws)).sum := by
  unfold mid
  rw [List.length_append, tobjs_length (fun g hg => h g (by simp [hg])), raw_length (fun g hg => h g (by simp [hg])), List.map_append, List.sum_append]
/-- the roots, as far as they are moved -/
theorem roots_next {ws : List U64} {F X : List Nat} {roots : List U64} {k : Nat} {x : U64} (hF : F = addAll [] (roots.take k)) (hx : roots[k]? = some x) (_hX : addW F x = F ++ X) :
    (roots.take k).map (trn ws F) ++ [trn ws (F ++ X) x] = (roots.take (k + 1)).map (trn ws (F ++ X)) := by
  have hk : known F (roots.take k) := by rw [hF]; exact addAll_known _ _
  rw [List.take_add_one, hx, Option.toList_some, List.map_append, map_trn_app hk]; rfl
theorem roots_end {ws roots : List U64} {F1 X : List Nat} (h : F1 = addAll [] roots) : roots.map (trn ws F1) = roots.map (trn ws (F1 ++ X)) := by
  rw [map_trn_app]; rw [h]; exact addAll_known _ _
end Hau

end Go.Proofs.YtdlcooplllimeaaGreatDoor

/- What a box holds; what a collection tells: all that is reached, and no more. -/
namespace Go.Proofs.YtdlcooplllimeaaGreatDoor
open Go.RowKit

namespace Sto
open Hau
/-- what was boxed is read again: of its kind; just so, but for a float -/
theorem unbL_box {k n x : Int} (h : boxL k n = (x, 0)) : ∃ m, unbL x = some (k, m) ∧ (k ≠ 3 → m = n) := by
  unfold boxL at h
  split at h
  · injection h with _ h; cases h
  rename_i hk
  split at h
  · rename_i h3
    subst h3
    split at h
    · injection h with h _
      subst h
      exact ⟨_, rfl, fun h => absurd rfl h⟩
    · rename_i hs
      injection h with h _
      subst h
      have hs2 : spo (n % 18446744073709551616) = false := by simpa using hs
      have hlt : n % 18446744073709551616 / 281474976710656 < 65529 := by
        unfold spo at hs2
        simp only [decide_eq_false_iff_not] at hs2
        omega
      refine ⟨sgn64 (n % 18446744073709551616), ?_, fun h => absurd rfl h⟩
      unfold unbL
      rw [if_pos (.inl hlt), if_neg (by rw [hs2]; simp)]
  · rename_i h3
    split at h
    · injection h with _ h; cases h
    · rename_i hr
      have hb : boxL k n = (x, 0) := by unfold boxL; rw [if_neg hk, if_neg h3, if_neg hr]; exact h
      injection h with h _
      have htag : tagL k = 65529 + (if 3 < k then k - 1 else k) := rfl
      have hlh : lowk k ≤ n ∧ n ≤ highk k := by omega
      have hkk : kindL x = k := by
        unfold kindL
        subst h
        rw [htag]
        split <;> split <;> omega
      have hnn : numL x = n := by
        unfold numL
        rw [hkk]
        subst h
        unfold lowk highk at hlh
        rw [htag]
        split
        · rename_i h2; subst h2; simp at hlh; unfold sgn32; omega
        · rename_i h2
          rw [if_neg h2] at hlh
          have : 0 ≤ n ∧ n ≤ 4294967295 := by
            refine ⟨hlh.1, ?_⟩
            have := hlh.2
            split at this
            · omega
            · split at this <;> omega
          omega
      refine ⟨n, ?_, fun _ => rfl⟩
      unfold unbL
      rw [if_neg (by subst h; rw [htag]; split <;> omega), hkk, hnn, hb, if_pos rfl]
theorem box_ref {p : Nat} (h : p < 4294967296) : boxL 5 p = ((refW p).val, 0) := by
  unfold refW
  have hlow : lowk 5 = 0 := by unfold lowk; decide
  have hhigh : highk 5 = 4294967295 := by unfold highk; decide
  have : (boxL 5 (p : Int)).2 = 0 := by
    unfold boxL
    rw [hlow, hhigh, if_neg (by omega), if_neg (by omega), if_neg (by omega)]
  rw [← this]
theorem unb_refW {p : Nat} (h : p < 4294967296) : unbL (refW p).val = some (5, (p : Int)) := by
  obtain ⟨m, h1, h2⟩ := unbL_box (box_ref h)
  rw [h1, h2 (by decide)]
theorem refOf_refW {p : Nat} (h : p < 4294967296) : refOf (refW p) = some p := by
  unfold refOf; rw [unb_refW h]; simp
theorem refOf_of {x : U64} {k n : Int} (h : unbL x.val = some (k, n)) : refOf x = if k = 5 then some n.toNat else none := by
  unfold refOf; rw [h]
/-- a reference is just the box of its place -/
theorem unb_range {x k n : Int} (_hx : 0 ≤ x ∧ x ≤ 18446744073709551615) (h : unbL x = some (k, n)) : k = 5 → boxL 5 n = (x, 0) ∧ 0 ≤ n ∧ n < 4294967296 := by
  intro hk
  subst hk
  unfold unbL at h
  split at h
  · split at h
    · cases h
    · injection h with h; injection h with h _; cases h
  · split at h
    · rename_i hb
      injection h with h; injection h with h1 h2
      rw [h1, h2] at hb
      refine ⟨hb, ?_⟩
      unfold boxL lowk highk at hb
      simp at hb
      split at hb
      · injection hb with _ hb; cases hb
      · omega
    · cases h
theorem refW_of {x : U64} (hx : Flat.ok x) {p : Nat} (h : refOf x = some p) : x = refW p ∧ p < 4294967296 := by
  unfold refOf at h
  split at h
  · rename_i k n he
    split at h
    · rename_i hk
      injection h with h
      obtain ⟨h1, h2, h3⟩ := unb_range hx he hk
      have hp : (p : Int) = n := by omega
      refine ⟨?_, by omega⟩
      unfold refW
      rw [hp, h1]
    · cases h
  · cases h

/-! ### what is told -/
def BInv (ws : List U64) (F : List Nat) (i : Nat) : Prop := F.Nodup ∧ (∀ r ∈ F, r ∈ places ws) ∧ ∀ j g, j < i → F[j]? = some g → known F (Hau.tail ws g)
theorem bfs_closed {ws : List U64} (hok : okW ws = true) (hw : wordsOk ws = true) : ∀ (f : Nat) (F : List Nat) (i : Nat), BInv ws F i → ws.length < f + i → (bfs ws f F i).Nodup ∧ (∀ r ∈ bfs ws f F i, r ∈ places ws) ∧ (∀ g ∈ bfs ws f F i, known (bfs ws f F i) (Hau.tail ws g)) ∧ ∃ X, bfs ws f F i = F ++ X
  | 0, F, i, ⟨h1, h2, h3⟩, hf => by
    have hl := len_le hok h1 h2
    refine ⟨h1, h2, fun g hg => ?_, ⟨[], by simp [bfs]⟩⟩
    obtain ⟨j, hj⟩ := List.mem_iff_getElem?.1 (show g ∈ F from hg)
    exact h3 j g (by have := (List.getElem?_eq_some_iff.1 hj).1; omega) hj
  | f + 1, F, i, ⟨h1, h2, h3⟩, hf => by
    unfold bfs
    by_cases hlt : i < F.length
    · rw [if_pos hlt]
      obtain ⟨g, hg⟩ : ∃ g, F[i]? = some g := ⟨_, List.getElem?_eq_getElem hlt⟩
      have hgd : F.getD i 0 = g := by rw [List.getD_eq_getElem?_getD, hg]; rfl
      rw [hgd]
      have hgp := h2 g (List.mem_of_getElem? hg)
      obtain ⟨X, hX⟩ := addAll_pre (Hau.tail ws g) F
      obtain ⟨i1, i2, i3, Y, hY⟩ := bfs_closed hok hw f (addAll F (Hau.tail ws g)) (i + 1) ⟨addAll_nodup _ h1, addAll_sub _ h2 (wordsOk_tail hok hw hgp), fun j g' hj hg' => by
        rcases Nat.lt_or_ge j i with hji | hji
        · rw [hX] at hg' ⊢
          rw [List.getElem?_append_left (by omega)] at hg'
          exact (h3 j g' hji hg').app
        · have : j = i := by omega
          subst this
          have : g' = g := by
            rw [hX, List.getElem?_append_left hlt, hg] at hg'
            exact (Option.some.inj hg').symm
          subst this
          exact addAll_known _ _⟩ (by omega)
      exact ⟨i1, i2, i3, X ++ Y, by rw [hY, hX, List.append_assoc]⟩
    · rw [if_neg hlt]
      refine ⟨h1, h2, fun g hg => ?_, ⟨[], by simp⟩⟩
      obtain ⟨j, hj⟩ := List.mem_iff_getElem?.1 hg
      exact h3 j g (by have := (List.getElem?_eq_some_iff.1 hj).1; omega) hj
theorem addAll_in {S : Nat → Prop} : ∀ (l : List U64) {F : List Nat}, (∀ p ∈ F, S p) → (∀ x ∈ l, ∀ r, refOf x = some r → S r) → ∀ p ∈ addAll F l, S p
  | [], _, h, _ => h
  | x :: l, F, h, hl => by
    unfold addAll
    rw [List.foldl_cons]
    refine addAll_in l (fun p hp => ?_) (fun y hy => hl y (by simp [hy]))
    unfold addW at hp
    split at hp
    · exact h p hp
    · rename_i q hq
      unfold add at hp
      split at hp
      · exact h p hp
      · rcases List.mem_append.1 hp with hp | hp
        · exact h p hp
        · simp at hp; subst hp; exact hl x (by simp) _ hq
theorem bfs_in {ws : List U64} {S : Nat → Prop} (hS : ∀ g, S g → ∀ x ∈ Hau.tail ws g, ∀ r, refOf x = some r → S r) : ∀ (f : Nat) (F : List Nat) (i : Nat), (∀ p ∈ F, S p) → ∀ p ∈ bfs ws f F i, S p
  | 0, F, i, h => h
  | f + 1, F, i, h => by
    unfold bfs
    split
    · rename_i hlt
      have hg : S (F.getD i 0) := by
        rw [List.getD_eq_getElem?_getD, List.getElem?_eq_getElem hlt]; exact h _ (List.getElem_mem hlt)
      exact bfs_in hS f _ _ (addAll_in _ h (hS _ hg))
    · exact h
/-- what is told is closed, has the roots, lies in places, holds nothing twice -/
theorem told_closed {ws roots : List U64} (hok : okW ws = true) (hw : wordsOk ws = true) (hr : rootsOk ws roots = true) : (told ws roots).Nodup ∧ (∀ r ∈ told ws roots, r ∈ places ws) ∧ (∀ g ∈ told ws roots, known (told ws roots) (Hau.tail ws g)) ∧ known (told ws roots) roots := by
  obtain ⟨h1, h2, h3, X, hX⟩ := bfs_closed hok hw (ws.length + 1) (addAll [] roots) 0 ⟨addAll_nodup roots List.nodup_nil, addAll_sub roots (by simp) (fun x hx => List.all_eq_true.1 hr x hx), fun j g hj => by omega⟩ (by omega)
  refine ⟨h1, h2, h3, ?_⟩
  unfold told; rw [hX]
  exact (addAll_known roots []).app
theorem told_in {ws roots : List U64} {S : Nat → Prop} (hS : ∀ g, S g → ∀ x ∈ Hau.tail ws g, ∀ r, refOf x = some r → S r) (hr : ∀ x ∈ roots, ∀ r, refOf x = some r → S r) : ∀ p ∈ told ws roots, S p :=
  bfs_in hS _ _ _ (addAll_in roots (by simp) hr)
end Sto

end Go.Proofs.YtdlcooplllimeaaGreatDoor
