/- A heap that moves: the plain functions: places, what fits, what is moved where. -/
import Derived.Test.YtpkccpegdpodoaaNan6
import Derived.Test.YtpkccpegdpodoaaTypes
import Derived.Maps.OwnSet
namespace Go.Proofs.Ytpkccpegdpodoaa
open Go.RowKit

namespace Hau
def wat (ws : List U64) (k : Nat) : U64 := ws.getD k ⟨0⟩
def lg (x : U64) : Nat := (x.val % 4294967296).toNat
/-- the place that a word tells -/
def refOf (x : U64) : Option Nat := match unbL x.val with | some (k, n) => if k = 5 then some n.toNat else none | none => none
def fits (pl : List Nat) (x : U64) : Bool := match unbL x.val with | some (k, n) => decide (k ≠ 5) || pl.contains n.toNat | none => false
def sz (ws : List U64) (p : Nat) : Nat := 1 + lg (wat ws p)
def objs (ws : List U64) : Nat → Nat → List Nat
  | 0, _ => []
  | f + 1, p => if p < ws.length then p :: objs ws f (p + sz ws p) else []
def oend (ws : List U64) : Nat → Nat → Nat
  | 0, p => p
  | f + 1, p => if p < ws.length then oend ws f (p + sz ws p) else p
def places (ws : List U64) : List Nat := objs ws (ws.length + 1) 0
def okW (ws : List U64) : Bool := oend ws (ws.length + 1) 0 == ws.length
def wordsOk (ws : List U64) : Bool := (List.range ws.length).all fun i => (places ws).contains i || fits (places ws) (wat ws i)
def rootsOk (ws roots : List U64) : Bool := roots.all (fits (places ws))
def heapErr (h : Hp) : Int := if 2000 < h.words.length ∨ 100 < h.roots.length then 2 else if okW h.words = false then 3 else if wordsOk h.words = false then 3 else if rootsOk h.words h.roots = false then 3 else 0

theorem sz_pos (ws : List U64) (p : Nat) : 1 ≤ sz ws p := by unfold sz; omega
theorem objs_done {ws : List U64} {f p : Nat} (h : ws.length ≤ p) : objs ws f p = [] := by
  cases f with
  | zero => rfl
  | succ f => unfold objs; rw [if_neg (by omega)]
theorem oend_done {ws : List U64} {f p : Nat} (h : ws.length ≤ p) : oend ws f p = p := by
  cases f with
  | zero => rfl
  | succ f => unfold oend; rw [if_neg (by omega)]
theorem objs_step {ws : List U64} {f p : Nat} (h : p < ws.length) (hf : ws.length < f + p) : ∃ f', objs ws f p = p :: objs ws f' (p + sz ws p) ∧ oend ws f p = oend ws f' (p + sz ws p) ∧ (ws.length < f' + (p + sz ws p)) := by
  cases f with
  | zero => omega
  | succ f =>
    have := sz_pos ws p
    exact ⟨f, by rw [objs, if_pos h], by rw [oend, if_pos h], by omega⟩
/-- the objects from p on: rising, within, as long as what is left -/
theorem objs_spec (ws : List U64) : ∀ f p, ws.length < f + p → oend ws f p = ws.length → (∀ q ∈ objs ws f p, p ≤ q ∧ q + sz ws q ≤ ws.length) ∧ (objs ws f p).Pairwise (· < ·) ∧ ((objs ws f p).map (sz ws)).sum + p = ws.length
  | 0, p, hf, he => by
    unfold oend at he
    omega
  | f + 1, p, hf, he => by
    by_cases h : p < ws.length
    · have hp := sz_pos ws p
      unfold oend at he
      rw [if_pos h] at he
      obtain ⟨h1, h2, h3⟩ := objs_spec ws f (p + sz ws p) (by omega) he
      unfold objs
      rw [if_pos h]
      refine ⟨fun q hq => ?_, List.pairwise_cons.2 ⟨fun q hq => by have := (h1 q hq).1; omega, h2⟩, by rw [List.map_cons, List.sum_cons]; omega⟩
      rcases List.mem_cons.1 hq with rfl | hq
      · refine ⟨Nat.le_refl _, ?_⟩
        have : 0 ≤ ((objs ws f (q + sz ws q)).map (sz ws)).sum := Nat.zero_le _
        omega
      · have := h1 q hq
        exact ⟨by omega, this.2⟩
    · rw [objs_done (by omega)]
      rw [oend_done (by omega)] at he
      exact ⟨by simp, List.Pairwise.nil, by simp; exact he⟩
theorem places_spec {ws : List U64} (h : okW ws = true) : (∀ q ∈ places ws, q + sz ws q ≤ ws.length) ∧ (places ws).Nodup ∧ ((places ws).map (sz ws)).sum = ws.length := by
  unfold okW at h
  obtain ⟨h1, h2, h3⟩ := objs_spec ws (ws.length + 1) 0 (by omega) (by simpa using h)
  exact ⟨fun q hq => (h1 q hq).2, h2.imp (fun h => by omega), h3⟩
/-- a list without doubles within another one: its sum is no greater -/
theorem sum_sub (g : Nat → Nat) : ∀ (F P : List Nat), F.Nodup → (∀ p ∈ F, p ∈ P) → (F.map g).sum ≤ (P.map g).sum
  | [], _, _, _ => by simp
  | p :: F, P, hn, hs => by
    have hp := hs p (List.mem_cons_self ..)
    have hperm := List.perm_cons_erase hp
    have h1 := sum_sub g F (P.erase p) (List.nodup_cons.1 hn).2 (fun q hq => by
      have hne : q ≠ p := fun e => (List.nodup_cons.1 hn).1 (e ▸ hq)
      exact (List.mem_erase_of_ne hne).2 (hs q (List.mem_cons_of_mem _ hq)))
    have h2 : (P.map g).sum = g p + ((P.erase p).map g).sum := by
      rw [(hperm.map g).sum_nat, List.map_cons, List.sum_cons]
    rw [List.map_cons, List.sum_cons]
    omega

/-! ### what is moved -/
def obj (ws : List U64) (p : Nat) : List U64 := (ws.drop p).take (sz ws p)
def raw (ws : List U64) (F : List Nat) : List U64 := F.flatMap (obj ws)
def add (F : List Nat) (p : Nat) : List Nat := if F.contains p = true then F else F ++ [p]
def posOf (ws : List U64) (F : List Nat) (p : Nat) : Nat := ((F.takeWhile (fun q => q != p)).map (sz ws)).sum
def cum (ws : List U64) : Nat → List Nat → List (Nat × Nat)
  | _, [] => []
  | a, p :: F => (a, p) :: cum ws (a + sz ws p) F
def refW (t : Nat) : U64 := ⟨(boxL 5 t).1⟩
def addW (F : List Nat) (x : U64) : List Nat := match refOf x with | none => F | some p => add F p
def trn (ws : List U64) (F : List Nat) (x : U64) : U64 := match refOf x with | none => x | some p => refW (posOf ws F p)
/-- places that a list of them grows by, those that words tell -/
def addAll (F : List Nat) (l : List U64) : List Nat := l.foldl addW F

theorem add_mem {F : List Nat} {p : Nat} : p ∈ add F p := by
  unfold add; split
  · rename_i h; exact List.contains_iff_mem.1 h
  · simp
theorem add_pre (F : List Nat) (p : Nat) : ∃ X, add F p = F ++ X := by
  unfold add; split
  · exact ⟨[], by simp⟩
  · exact ⟨[p], rfl⟩
theorem add_nodup {F : List Nat} {p : Nat} (h : F.Nodup) : (add F p).Nodup := by
  unfold add; split
  · exact h
  · rename_i hc
    have : p ∉ F := fun hm => hc (List.contains_iff_mem.2 hm)
    exact List.nodup_append.2 ⟨h, by simp, by intro a ha b hb; simp at hb; subst hb; intro e; subst e; exact this ha⟩
theorem addW_pre (F : List Nat) (x : U64) : ∃ X, addW F x = F ++ X := by
  unfold addW; split
  · exact ⟨[], by simp⟩
  · exact add_pre F _
theorem addW_nodup {F : List Nat} {x : U64} (h : F.Nodup) : (addW F x).Nodup := by
  unfold addW; split
  · exact h
  · exact add_nodup h
theorem fits_ref {pl : List Nat} {x : U64} {p : Nat} (h : fits pl x = true) (hr : refOf x = some p) : p ∈ pl := by
  unfold fits at h
  unfold refOf at hr
  split at hr
  · rename_i k n he
    rw [he] at h
    split at hr
    · rename_i hk
      injection hr with hr
      subst hr
      simp only [hk, ne_eq, not_true_eq_false, decide_false, Bool.false_or] at h
      exact List.contains_iff_mem.1 h
    · cases hr
  · cases hr
theorem addW_sub {F pl : List Nat} {x : U64} (h : ∀ p ∈ F, p ∈ pl) (hf : fits pl x = true) : ∀ p ∈ addW F x, p ∈ pl := by
  intro p hp
  unfold addW at hp
  split at hp
  · exact h p hp
  · rename_i q hq
    unfold add at hp
    split at hp
    · exact h p hp
    · rcases List.mem_append.1 hp with hp | hp
      · exact h p hp
      · simp at hp; subst hp; exact fits_ref hf hq
theorem addAll_snoc {F : List Nat} {l : List U64} {k : Nat} {x : U64} (h : l[k]? = some x) : addAll F (l.take (k + 1)) = addW (addAll F (l.take k)) x := by
  unfold addAll; rw [List.take_add_one, h, Option.toList_some, List.foldl_append]; rfl
theorem addAll_pre : ∀ (l : List U64) (F : List Nat), ∃ X, addAll F l = F ++ X
  | [], F => ⟨[], by simp [addAll]⟩
  | x :: l, F => by
    obtain ⟨X, hX⟩ := addW_pre F x
    obtain ⟨Y, hY⟩ := addAll_pre l (F ++ X)
    exact ⟨X ++ Y, by unfold addAll at hY ⊢; rw [List.foldl_cons, hX, hY, List.append_assoc]⟩
theorem addAll_nodup : ∀ (l : List U64) {F : List Nat}, F.Nodup → (addAll F l).Nodup
  | [], _, h => h
  | x :: l, F, h => by unfold addAll; rw [List.foldl_cons]; exact addAll_nodup l (addW_nodup h)
theorem addAll_sub {pl : List Nat} : ∀ (l : List U64) {F : List Nat}, (∀ p ∈ F, p ∈ pl) → (∀ x ∈ l, fits pl x = true) → ∀ p ∈ addAll F l, p ∈ pl
  | [], _, h, _ => h
  | x :: l, F, h, hf => by unfold addAll; rw [List.foldl_cons]; exact addAll_sub l (addW_sub h (hf x (by simp))) (fun y hy => hf y (by simp [hy]))

theorem obj_length {ws : List U64} {p : Nat} (h : p + sz ws p ≤ ws.length) : (obj ws p).length = sz ws p := by
  unfold obj; rw [List.length_take, List.length_drop]; omega
theorem raw_length {ws : List U64} : ∀ {F : List Nat}, (∀ p ∈ F, p + sz ws p ≤ ws.length) → (raw ws F).length = (F.map (sz ws)).sum
  | [], _ => rfl
  | p :: F, h => by
    unfold raw
    rw [List.flatMap_cons, List.length_append, obj_length (h p (by simp)), List.map_cons, List.sum_cons]
    have := raw_length (F := F) (fun q hq => h q (by simp [hq]))
    unfold raw at this
    omega
theorem raw_append (ws : List U64) (F X : List Nat) : raw ws (F ++ X) = raw ws F ++ raw ws X := by unfold raw; rw [List.flatMap_append]
theorem cum_append (ws : List U64) : ∀ (F X : List Nat) (a : Nat), cum ws a (F ++ X) = cum ws a F ++ cum ws (a + (F.map (sz ws)).sum) X
  | [], X, a => by simp [cum]
  | p :: F, X, a => by
    rw [List.cons_append, cum, cum, cum_append ws F X, List.map_cons, List.sum_cons, List.cons_append, Nat.add_assoc]
theorem cum_length (ws : List U64) : ∀ (F : List Nat) (a : Nat), (cum ws a F).length = F.length
  | [], _ => rfl
  | p :: F, a => by rw [cum, List.length_cons, List.length_cons, cum_length ws F]
theorem takeWhile_all {α : Type} (p : α → Bool) : ∀ l : List α, (∀ x ∈ l, p x = true) → l.takeWhile p = l
  | [], _ => rfl
  | x :: l, h => by rw [List.takeWhile_cons, if_pos (h x (by simp)), takeWhile_all p l (fun y hy => h y (by simp [hy]))]
theorem posOf_new {ws : List U64} {F : List Nat} {p : Nat} (h : p ∉ F) : posOf ws F p = (F.map (sz ws)).sum := by
  unfold posOf
  rw [takeWhile_all (fun q => q != p) F]
  intro q hq
  simp only [bne_iff_ne, ne_eq]
  intro e; subst e; exact h hq
theorem posOf_app {ws : List U64} {F X : List Nat} {p : Nat} (h : p ∈ F) : posOf ws (F ++ X) p = posOf ws F p := by
  unfold posOf
  congr 2
  induction F with
  | nil => cases h
  | cons q F ih =>
    rw [List.cons_append, List.takeWhile_cons, List.takeWhile_cons]
    by_cases hq : q = p
    · simp [hq]
    · have : (q != p) = true := by simpa using hq
      rw [this]
      rcases List.mem_cons.1 h with h | h
      · exact absurd h.symm hq
      · simp only [if_true, ih h]
/-- the map of what was moved -/
def mapD (ws : List U64) (F : List Nat) : DataW Unit := (cum ws 0 F).foldl (fun D m => D.put (.int .i64 (m.2 : Int)) (.lit (.int .i64 (m.1 : Int)))) (.map [])
theorem mapD_snoc (ws : List U64) (F : List Nat) (p : Nat) : mapD ws (F ++ [p]) = (mapD ws F).put (.int .i64 (p : Int)) (.lit (.int .i64 ((F.map (sz ws)).sum : Int))) := by
  unfold mapD
  rw [cum_append, List.foldl_append]
  simp [cum]
theorem mapD_isMap (ws : List U64) : ∀ F : List Nat, Maps.IsMap (mapD ws F) := by
  intro F
  unfold mapD
  have key : ∀ (l : List (Nat × Nat)) (D : DataW Unit), Maps.IsMap D → Maps.IsMap (l.foldl (fun D m => D.put (.int .i64 (m.2 : Int)) (.lit (.int .i64 (m.1 : Int)))) D) := by
    intro l
    induction l with
    | nil => intro D h; exact h
    | cons m l ih => intro D h; rw [List.foldl_cons]; exact ih _ (h.put _ _)
  exact key _ _ Maps.isMap_empty
theorem mapD_spec (ws : List U64) (p : Nat) : ∀ n (F : List Nat), F.length = n → F.Nodup → Maps.has (mapD ws F) (.int .i64 (p : Int)) = F.contains p ∧ (p ∈ F → ∀ z, (mapD ws F).atKey (.int .i64 (p : Int)) z = .lit (.int .i64 (posOf ws F p : Int)))
  | 0, F, hn, _ => by
    have := List.eq_nil_of_length_eq_zero hn
    subst this
    exact ⟨rfl, fun h => by cases h⟩
  | n + 1, F, hn, hnd => by
    rcases List.eq_nil_or_concat F with rfl | ⟨G, q, rfl⟩
    · simp at hn
    rw [List.concat_eq_append] at hn hnd ⊢
    have hG : G.length = n := by simpa using hn
    have hnd' := List.nodup_append.1 hnd
    have hqG : q ∉ G := fun h => hnd'.2.2 q h q (by simp) rfl
    obtain ⟨ih1, ih2⟩ := mapD_spec ws p n G hG hnd'.1
    rw [mapD_snoc]
    by_cases hpq : p = q
    · subst hpq
      refine ⟨?_, fun _ z => ?_⟩
      · rw [Maps.has_put_same (mapD_isMap ws G) (show WideAt.IsKeyLit (.int .i64 (p : Int)) from trivial)]
        simp
      · rw [Maps.atKey_put_same (mapD_isMap ws G) (show WideAt.IsKeyLit (.int .i64 (p : Int)) from trivial)]
        congr 2
        unfold posOf
        congr 3
        rw [List.takeWhile_append_of_pos (by intro u hu; simp only [bne_iff_ne, ne_eq]; intro e; subst e; exact hqG hu), List.takeWhile_cons]
        simp
    · have hne : Lit.int .i64 (p : Int) ≠ Lit.int .i64 (q : Int) := by intro e; injection e with _ e; omega
      refine ⟨?_, fun hm z => ?_⟩
      · rw [Maps.has_put_other hne, ih1]
        rw [Bool.eq_iff_iff, List.contains_iff_mem, List.contains_iff_mem]
        simp [hpq]
      · rw [Maps.atKey_put_other hne]
        have hpG : p ∈ G := by
          rcases List.mem_append.1 hm with h | h
          · exact h
          · simp at h; exact absurd h hpq
        rw [ih2 hpG z, posOf_app hpG]
end Hau

end Go.Proofs.Ytpkccpegdpodoaa
