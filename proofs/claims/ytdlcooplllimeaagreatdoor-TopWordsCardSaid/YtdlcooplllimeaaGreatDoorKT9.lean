/- KT: GraphL. -/
import Derived.Lib.Hide
/- Graphs, the plain law: what is wrong with one; what is reached from some things; numbers of those that are so. No program is named here. -/
namespace Go.Proofs.YtdlcooplllimeaaGreatDoor

/-- is a number that of one of many? -/
def inN (many : Nat) (n : Int) : Bool := decide (0 ≤ n) && decide (n < (many : Int))
theorem inN_iff {many : Nat} {n : Int} : inN many n = true ↔ 0 ≤ n ∧ n < (many : Int) := by simp [inN]
def grErr (has : List (List Int)) (roots : List Int) : Int :=
  if 100 < has.length ∨ 100 < roots.length then 2
  else if has.any (fun l => decide (10 < l.length)) = true then 2
  else if (roots :: has).all (fun l => l.all (inN has.length)) = true then 0 else 3
def prErr (has : List (List Int)) (roots : List Int) (pairs : List (Int × Int)) : Int :=
  if grErr has roots ≠ 0 then grErr has roots
  else if 50 < pairs.length then 2
  else if pairs.all (fun p => inN has.length p.1 && inN has.length p.2) = true then 0 else 3

/-- all numbers of a graph are those of its things -/
def Right (has : List (List Int)) : Prop := ∀ l ∈ has, ∀ x ∈ l, ∃ k : Nat, x = (k : Int) ∧ k < has.length
def RightL (many : Nat) (l : List Int) : Prop := ∀ x ∈ l, ∃ k : Nat, x = (k : Int) ∧ k < many
def RightP (many : Nat) (l : List (Int × Int)) : Prop := ∀ p ∈ l, ∃ k v : Nat, p = ((k : Int), (v : Int)) ∧ k < many ∧ v < many
theorem rightL_of {many : Nat} {l : List Int} (h : l.all (inN many) = true) : RightL many l := by
  intro x hx
  have := inN_iff.1 (List.all_eq_true.1 h x hx)
  exact ⟨x.toNat, by omega, by omega⟩
theorem grErr_ok {has : List (List Int)} {roots : List Int} (h : grErr has roots = 0) : has.length ≤ 100 ∧ roots.length ≤ 100 ∧ (∀ l ∈ has, l.length ≤ 10) ∧ Right has ∧ RightL has.length roots := by
  unfold grErr at h
  split at h
  · cases h
  · rename_i h1
    split at h
    · cases h
    · rename_i h2
      split at h
      · rename_i h3
        rw [List.all_cons, Bool.and_eq_true] at h3
        refine ⟨by omega, by omega, fun l hl => ?_, fun l hl => rightL_of (List.all_eq_true.1 h3.2 l hl), rightL_of h3.1⟩
        rw [Bool.not_eq_true, List.any_eq_false] at h2
        have := h2 l hl
        simpa using this
      · cases h
theorem prErr_ok {has : List (List Int)} {roots : List Int} {pairs : List (Int × Int)} (h : prErr has roots pairs = 0) : grErr has roots = 0 ∧ pairs.length ≤ 50 ∧ RightP has.length pairs := by
  unfold prErr at h
  split at h
  · rename_i h1; exact absurd h h1
  · rename_i h1
    split at h
    · cases h
    · split at h
      · rename_i h3
        refine ⟨by omega, by omega, fun p hp => ?_⟩
        have := List.all_eq_true.1 h3 p hp
        rw [Bool.and_eq_true] at this
        have a := inN_iff.1 this.1
        have b := inN_iff.1 this.2
        exact ⟨p.1.toNat, p.2.toNat, by rw [Int.toNat_of_nonneg a.1, Int.toNat_of_nonneg b.1], by omega, by omega⟩
      · cases h

/-- what is reached from some things, over what things have and over pairs -/
inductive RT (has : List (List Int)) (src : List Int) (pairs : List (Int × Int)) : Nat → Prop
  | root {n : Nat} : (n : Int) ∈ src → RT has src pairs n
  | edge {n k : Nat} {l : List Int} : RT has src pairs n → has[n]? = some l → (k : Int) ∈ l → RT has src pairs k
  | pair {k v : Nat} : RT has src pairs k → ((k : Int), (v : Int)) ∈ pairs → RT has src pairs v

open Classical in
noncomputable def fromL (has : List (List Int)) (src : List Int) (pairs : List (Int × Int)) : List Bool := (List.range has.length).map fun n => decide (RT has src pairs n)
theorem fromL_length (has : List (List Int)) (src : List Int) (pairs : List (Int × Int)) : (fromL has src pairs).length = has.length := by simp [fromL]
theorem fromL_get (has : List (List Int)) (src : List Int) (pairs : List (Int × Int)) (n : Nat) : (fromL has src pairs)[n]? = some true ↔ n < has.length ∧ RT has src pairs n := by
  unfold fromL
  rw [List.getElem?_map]
  by_cases h : n < has.length
  · rw [List.getElem?_range h]; simp [h]
  · rw [List.getElem?_eq_none (by simp; omega)]; simp [h]

theorem bools_ext {a b : List Bool} (hl : a.length = b.length) (h : ∀ n : Nat, a[n]? = some true ↔ b[n]? = some true) : a = b := by
  apply List.ext_getElem? 
  intro n
  by_cases hn : n < a.length
  · have hn' : n < b.length := by omega
    have := h n
    rw [List.getElem?_eq_getElem hn, List.getElem?_eq_getElem hn'] at this ⊢
    cases h1 : a[n] <;> cases h2 : b[n] <;> simp_all
  · rw [List.getElem?_eq_none (by omega), List.getElem?_eq_none (by omega)]

theorem fromL_eq {has : List (List Int)} {src : List Int} {pairs : List (Int × Int)} {seen : List Bool} (hlen : seen.length = has.length) (hsound : ∀ n, seen[n]? = some true → RT has src pairs n)
    (hsrc : ∀ n : Nat, (n : Int) ∈ src → seen[n]? = some true) (hedge : ∀ (n k : Nat) l, seen[n]? = some true → has[n]? = some l → (k : Int) ∈ l → seen[k]? = some true)
    (hpair : ∀ k v : Nat, seen[k]? = some true → ((k : Int), (v : Int)) ∈ pairs → seen[v]? = some true) : seen = fromL has src pairs := by
  apply bools_ext (by rw [fromL_length, hlen])
  intro n
  rw [fromL_get]
  constructor
  · intro h
    exact ⟨by rw [← hlen]; exact (List.getElem?_eq_some_iff.1 h).1, hsound n h⟩
  · rintro ⟨-, h⟩
    induction h with
    | root h => exact hsrc _ h
    | edge _ h1 h2 ih => exact hedge _ _ _ ih h1 h2
    | pair _ h1 ih => exact hpair _ _ ih h1

/-! ### reached by a list of things that are still to be gone on from -/
def unseen (seen : List Bool) : Nat := seen.countP (! ·)
theorem unseen_set {seen : List Bool} {k : Nat} (h : seen[k]? = some false) : unseen (seen.set k true) + 1 = unseen seen := by
  induction seen generalizing k with
  | nil => simp at h
  | cons b l ih =>
    cases k with
    | zero =>
      simp only [List.getElem?_cons_zero, Option.some.injEq] at h
      subst h
      simp [unseen]
    | succ k =>
      simp only [List.getElem?_cons_succ] at h
      have := ih h
      simp only [unseen, List.set_cons_succ, List.countP_cons] at this ⊢
      omega
theorem unseen_le (seen : List Bool) : unseen seen ≤ seen.length := List.countP_le_length
theorem set_true_get {seen : List Bool} {k n : Nat} (hk : k < seen.length) : (seen.set k true)[n]? = some true ↔ n = k ∨ seen[n]? = some true := by
  rw [List.getElem?_set]
  by_cases h : k = n
  · subst h; simp [hk]
  · rw [if_neg h]; simp [Ne.symm h]

def reach1 (st : List Bool × List Int) (n : Int) : List Bool × List Int := if st.1.getD n.toNat false = true then st else (st.1.set n.toNat true, st.2 ++ [n])
def reachL (l : List Int) (st : List Bool × List Int) : List Bool × List Int := l.foldl reach1 st
theorem reachL_snoc (l : List Int) (k : Nat) (x : Int) (st : List Bool × List Int) (h : l[k]? = some x) : reachL (l.take (k + 1)) st = reach1 (reachL (l.take k) st) x := by
  unfold reachL
  rw [List.take_add_one, h]; simp
theorem reach1_len (st : List Bool × List Int) (n : Int) : (reach1 st n).1.length = st.1.length := by unfold reach1; split <;> simp
theorem reachL_len (l : List Int) (st : List Bool × List Int) : (reachL l st).1.length = st.1.length := by
  unfold reachL
  induction l generalizing st with
  | nil => rfl
  | cons x l ih => rw [List.foldl_cons, ih, reach1_len]

structure Inv (has : List (List Int)) (src : List Int) (pairs : List (Int × Int)) (ex : List Int) (seen : List Bool) (todo : List Int) : Prop where
  len : seen.length = has.length
  sound : ∀ n, seen[n]? = some true → RT has src pairs n
  todo_ : ∀ x ∈ todo, ∃ n : Nat, x = (n : Int) ∧ seen[n]? = some true
  closed : ∀ (n k : Nat) l, seen[n]? = some true → has[n]? = some l → (k : Int) ∈ l → (n : Int) ∉ todo → (n : Int) ∉ ex → seen[k]? = some true

theorem Inv.start (has : List (List Int)) (src : List Int) (pairs : List (Int × Int)) : Inv has src pairs [] (List.replicate has.length false) [] :=
  ⟨by simp, fun n h => by rw [List.getElem?_replicate] at h; split at h <;> simp at h, fun x h => by simp at h, fun n k l h => by rw [List.getElem?_replicate] at h; split at h <;> simp at h⟩

def Grows (a b : List Bool) : Prop := ∀ n : Nat, a[n]? = some true → b[n]? = some true
theorem Grows.refl (a : List Bool) : Grows a a := fun _ h => h
theorem Grows.trans {a b c : List Bool} (h : Grows a b) (h' : Grows b c) : Grows a c := fun n hn => h' n (h n hn)

section
variable {has : List (List Int)} {src : List Int} {pairs : List (Int × Int)} {ex : List Int}
theorem getD_true {seen : List Bool} {k : Nat} : seen.getD k false = true ↔ seen[k]? = some true := by
  rw [List.getD_eq_getElem?_getD]
  cases seen[k]? with
  | none => simp
  | some b => simp
theorem get_false {seen : List Bool} {k : Nat} (hk : k < seen.length) (h : ¬ seen.getD k false = true) : seen[k]? = some false := by
  rw [getD_true] at h
  rw [List.getElem?_eq_getElem hk] at h ⊢
  cases h1 : seen[k] <;> simp_all
theorem Inv.reach1 {st : List Bool × List Int} (h : Inv has src pairs ex st.1 st.2) {k : Nat} (hk : k < has.length) (hr : RT has src pairs k) :
    Inv has src pairs ex (reach1 st k).1 (reach1 st k).2 ∧ Grows st.1 (Proofs.YtdlcooplllimeaaGreatDoor.reach1 st k).1 ∧ (Proofs.YtdlcooplllimeaaGreatDoor.reach1 st k).1[k]? = some true ∧
      2 * unseen (Proofs.YtdlcooplllimeaaGreatDoor.reach1 st k).1 + (Proofs.YtdlcooplllimeaaGreatDoor.reach1 st k).2.length ≤ 2 * unseen st.1 + st.2.length := by
  unfold Proofs.YtdlcooplllimeaaGreatDoor.reach1
  rw [Int.toNat_natCast]
  split
  · rename_i h1
    exact ⟨h, Grows.refl _, getD_true.1 h1, Nat.le_refl _⟩
  · rename_i h1
    have hkl : k < st.1.length := by rw [h.len]; exact hk
    have h2 := unseen_set (get_false hkl h1)
    refine ⟨⟨by simp [h.len], fun n hn => ?_, fun x hx => ?_, fun n k' l hn hl hk' ht he => ?_⟩, fun n hn => (set_true_get hkl).2 (.inr hn), (set_true_get hkl).2 (.inl rfl), ?_⟩
    · rcases (set_true_get hkl).1 hn with rfl | hn
      · exact hr
      · exact h.sound n hn
    · rcases List.mem_append.1 hx with hx | hx
      · obtain ⟨n, rfl, hn⟩ := h.todo_ x hx
        exact ⟨n, rfl, (set_true_get hkl).2 (.inr hn)⟩
      · simp only [List.mem_singleton] at hx
        exact ⟨k, hx, (set_true_get hkl).2 (.inl rfl)⟩
    · rcases (set_true_get hkl).1 hn with rfl | hn
      · exact absurd (List.mem_append_right _ (List.mem_singleton.2 rfl)) ht
      · exact (set_true_get hkl).2 (.inr (h.closed n k' l hn hl hk' (fun hm => ht (List.mem_append_left _ hm)) he))
    · simp only [List.length_append, List.length_singleton]
      omega
theorem Inv.reachL {l : List Int} {st : List Bool × List Int} (h : Inv has src pairs ex st.1 st.2) (hl : ∀ x ∈ l, ∃ k : Nat, x = (k : Int) ∧ k < has.length ∧ RT has src pairs k) :
    Inv has src pairs ex (reachL l st).1 (reachL l st).2 ∧ Grows st.1 (Proofs.YtdlcooplllimeaaGreatDoor.reachL l st).1 ∧ (∀ k : Nat, (k : Int) ∈ l → (Proofs.YtdlcooplllimeaaGreatDoor.reachL l st).1[k]? = some true) ∧
      2 * unseen (Proofs.YtdlcooplllimeaaGreatDoor.reachL l st).1 + (Proofs.YtdlcooplllimeaaGreatDoor.reachL l st).2.length ≤ 2 * unseen st.1 + st.2.length := by
  unfold Proofs.YtdlcooplllimeaaGreatDoor.reachL
  induction l generalizing st with
  | nil => exact ⟨h, Grows.refl _, fun k hk => by simp at hk, Nat.le_refl _⟩
  | cons x l ih =>
    obtain ⟨k, rfl, hk, hr⟩ := hl x (by simp)
    obtain ⟨h1, h2, h3, h4⟩ := h.reach1 hk hr
    obtain ⟨i1, i2, i3, i4⟩ := ih h1 (fun x hx => hl x (by simp [hx]))
    rw [List.foldl_cons]
    refine ⟨i1, h2.trans i2, fun k' hk' => ?_, by omega⟩
    rcases List.mem_cons.1 hk' with e | e
    · obtain rfl : k' = k := by omega
      exact i2 _ h3
    · exact i3 k' e
/-- the last one is taken off, and what it has is reached -/
theorem Inv.step (hright : Right has) {seen : List Bool} {todo : List Int} {x : Int} (h : Inv has src pairs [] seen (todo ++ [x])) {l : List Int} (hl : has[x.toNat]? = some l) :
    Inv has src pairs [] (Proofs.YtdlcooplllimeaaGreatDoor.reachL l (seen, todo)).1 (Proofs.YtdlcooplllimeaaGreatDoor.reachL l (seen, todo)).2 ∧ Grows seen (Proofs.YtdlcooplllimeaaGreatDoor.reachL l (seen, todo)).1 ∧
      2 * unseen (Proofs.YtdlcooplllimeaaGreatDoor.reachL l (seen, todo)).1 + (Proofs.YtdlcooplllimeaaGreatDoor.reachL l (seen, todo)).2.length < 2 * unseen seen + (todo ++ [x]).length := by
  obtain ⟨n, rfl, hn⟩ := h.todo_ x (by simp)
  rw [Int.toNat_natCast] at hl
  have h0 : Inv has src pairs [(n : Int)] (seen, todo).1 (seen, todo).2 :=
    ⟨h.len, h.sound, fun y hy => h.todo_ y (by simp [hy]), fun m k l' hm hl' hk ht he => h.closed m k l' hm hl' hk (by simp at he ⊢; exact ⟨ht, he⟩) (by simp)⟩
  obtain ⟨i1, i2, i3, i4⟩ := h0.reachL (l := l) (fun y hy => by
    obtain ⟨k, rfl, hk⟩ := hright l (List.mem_of_getElem? hl) y hy
    exact ⟨k, rfl, hk, .edge (h.sound n hn) hl hy⟩)
  refine ⟨⟨i1.len, i1.sound, i1.todo_, fun m k l' hm hl' hk ht _ => ?_⟩, i2, by simp only [List.length_append, List.length_singleton]; have i4' : _ ≤ 2 * unseen seen + todo.length := i4; omega⟩
  by_cases hmn : m = n
  · subst hmn
    rw [hl] at hl'
    injection hl' with hl'
    subst hl'
    exact i3 k hk
  · exact i1.closed m k l' hm hl' hk ht (by simp; omega)
/-- nothing is left to be gone on from -/
theorem Inv.done {seen : List Bool} (h : Inv has src pairs [] seen []) (hsrc : ∀ n : Nat, (n : Int) ∈ src → seen[n]? = some true) (hpair : ∀ k v : Nat, seen[k]? = some true → ((k : Int), (v : Int)) ∈ pairs → seen[v]? = some true) : seen = fromL has src pairs :=
  fromL_eq h.len h.sound hsrc (fun n k l h1 h2 h3 => h.closed n k l h1 h2 h3 (by simp) (by simp)) hpair
end

theorem unseen_grows : ∀ {a b : List Bool}, a.length = b.length → Grows a b → unseen b ≤ unseen a := by
  intro a
  induction a with
  | nil => intro b hl _; cases b with
    | nil => exact Nat.le_refl _
    | cons y b => simp at hl
  | cons x a ih =>
    intro b hl hg
    cases b with
    | nil => simp at hl
    | cons y b =>
      have h1 := ih (b := b) (by simpa using hl) (fun n hn => by simpa using hg (n + 1) (by simpa using hn))
      have h2 : x = true → y = true := fun hx => by simpa using hg 0 (by simp [hx])
      simp only [unseen, List.countP_cons] at h1 ⊢
      cases x <;> cases y <;> simp_all <;> omega

/-! ### reached round by round -/
/-- what a round keeps: what was seen ahead of it, what is now, whether there is more -/
structure RInv (has : List (List Int)) (src : List Int) (pairs : List (Int × Int)) (s0 s : List Bool) (m : Bool) : Prop where
  len : s.length = has.length
  len0 : s0.length = has.length
  sound : ∀ n, s[n]? = some true → RT has src pairs n
  grows : Grows s0 s
  same : m = false → s = s0
  less : unseen s + (if m = true then 1 else 0) ≤ unseen s0
section
variable {has : List (List Int)} {src : List Int} {pairs : List (Int × Int)} {s0 s : List Bool} {m : Bool}
theorem RInv.see (h : RInv has src pairs s0 s m) {k : Nat} (hk : k < has.length) (hr : RT has src pairs k) : RInv has src pairs s0 (s.set k true) (m || !(s.getD k false)) := by
  have hkl : k < s.length := by rw [h.len]; exact hk
  by_cases h1 : s.getD k false = true
  · have h2 : s[k]? = some true := getD_true.1 h1
    have h3 : s.set k true = s := by
      apply List.ext_getElem?
      intro i
      by_cases hi : k = i
      · subst hi; rw [List.getElem?_set_self hkl, h2]
      · rw [List.getElem?_set_ne hi]
    rw [h3, h1]
    simpa using h
  · have h2 := unseen_set (get_false hkl h1)
    have h4 : s.getD k false = false := by simpa using h1
    rw [h4]
    refine ⟨by simp [h.len], h.len0, fun n hn => ?_, fun n hn => (set_true_get hkl).2 (.inr (h.grows n hn)), fun hm => by simp at hm, ?_⟩
    · rcases (set_true_get hkl).1 hn with rfl | hn
      · exact hr
      · exact h.sound n hn
    · have := h.less
      simp
      omega
theorem see_get {k : Nat} (hk : k < s.length) : (s.set k true)[k]? = some true := (set_true_get hk).2 (.inl rfl)
theorem see_grows {k : Nat} (hk : k < s.length) : Grows s (s.set k true) := fun _n hn => (set_true_get hk).2 (.inr hn)
end
/-- the things' own, as far as they were gone through: those of the first i things, and the first j of the next -/
def EClosed (has : List (List Int)) (s0 s : List Bool) (i j : Nat) : Prop := ∀ (n k : Nat) l, s0[n]? = some true → has[n]? = some l → (n < i ∧ (k : Int) ∈ l ∨ n = i ∧ (k : Int) ∈ l.take j) → s[k]? = some true
def PClosed (pairs : List (Int × Int)) (s0 s : List Bool) (j : Nat) : Prop := ∀ k v : Nat, s0[k]? = some true → ((k : Int), (v : Int)) ∈ pairs.take j → s[v]? = some true
theorem EClosed.zero (has : List (List Int)) (s0 s : List Bool) : EClosed has s0 s 0 0 := fun n k l _ _ h => by
  rcases h with ⟨h, _⟩ | ⟨_, h⟩
  · omega
  · simp at h
theorem EClosed.grow {has : List (List Int)} {s0 s s' : List Bool} {i j : Nat} (h : EClosed has s0 s i j) (hg : Grows s s') : EClosed has s0 s' i j := fun n k l h1 h2 h3 => hg k (h n k l h1 h2 h3)
theorem PClosed.grow {pairs : List (Int × Int)} {s0 s s' : List Bool} {j : Nat} (h : PClosed pairs s0 s j) (hg : Grows s s') : PClosed pairs s0 s' j := fun k v h1 h2 => hg v (h k v h1 h2)
theorem PClosed.zero (pairs : List (Int × Int)) (s0 s : List Bool) : PClosed pairs s0 s 0 := fun k v _ h => by simp at h
/-- one more of a thing's own: it is seen now, if the thing was -/
theorem EClosed.next {has : List (List Int)} {s0 s : List Bool} {i j : Nat} (h : EClosed has s0 s i j) {l : List Int} {x : Nat} (hl : has[i]? = some l) (hx : l[j]? = some (x : Int)) (hs : s0[i]? = some true → s[x]? = some true) : EClosed has s0 s i (j + 1) := fun n k l' h1 h2 h3 => by
  rcases h3 with h3 | ⟨rfl, h3⟩
  · exact h n k l' h1 h2 (.inl h3)
  · rw [hl] at h2; injection h2 with h2; subst h2
    rw [List.take_add_one, hx] at h3
    rcases List.mem_append.1 h3 with h3 | h3
    · exact h n k l h1 hl (.inr ⟨rfl, h3⟩)
    · simp at h3
      obtain rfl : k = x := by omega
      exact hs h1
theorem EClosed.done {has : List (List Int)} {s0 s : List Bool} {i j : Nat} (h : EClosed has s0 s i j) {l : List Int} (hl : has[i]? = some l) (hj : l.length ≤ j) : EClosed has s0 s (i + 1) 0 := fun n k l' h1 h2 h3 => by
  rcases h3 with ⟨h3, h4⟩ | ⟨_, h3⟩
  · rcases Nat.lt_or_ge n i with hn | hn
    · exact h n k l' h1 h2 (.inl ⟨hn, h4⟩)
    · obtain rfl : n = i := by omega
      rw [hl] at h2; injection h2 with h2; subst h2
      exact h n k l h1 hl (.inr ⟨rfl, by rw [List.take_of_length_le hj]; exact h4⟩)
  · simp at h3
theorem PClosed.next {pairs : List (Int × Int)} {s0 s : List Bool} {j : Nat} (h : PClosed pairs s0 s j) {k v : Nat} (hx : pairs[j]? = some ((k : Int), (v : Int))) (hs : s0[k]? = some true → s[v]? = some true) : PClosed pairs s0 s (j + 1) := fun k' v' h1 h2 => by
  rw [List.take_add_one, hx] at h2
  rcases List.mem_append.1 h2 with h2 | h2
  · exact h k' v' h1 h2
  · simp at h2
    obtain ⟨h3, h4⟩ := h2
    obtain rfl : k' = k := by omega
    obtain rfl : v' = v := by omega
    exact hs h1
theorem RInv.fin {has : List (List Int)} {src : List Int} {pairs : List (Int × Int)} {s : List Bool} (hlen : s.length = has.length) (hsound : ∀ n, s[n]? = some true → RT has src pairs n) (hsrc : ∀ n : Nat, (n : Int) ∈ src → s[n]? = some true) (he : EClosed has s s has.length 0) (hp : PClosed pairs s s pairs.length) : s = fromL has src pairs :=
  fromL_eq hlen hsound hsrc (fun n k l h1 h2 h3 => he n k l h1 h2 (.inl ⟨by rw [← hlen]; exact (List.getElem?_eq_some_iff.1 h1).1, h3⟩)) (fun k v h1 h2 => hp k v h1 (by rw [List.take_length]; exact h2))

/-! ### numbers of those that are so -/
def risingFrom : Nat → List Bool → List Int
  | _, [] => []
  | i, b :: l => if b = true then (i : Int) :: risingFrom (i + 1) l else risingFrom (i + 1) l
def rising (l : List Bool) : List Int := risingFrom 0 l
theorem risingFrom_append (i : Nat) (l : List Bool) (b : Bool) : risingFrom i (l ++ [b]) = risingFrom i l ++ if b = true then [((i + l.length : Nat) : Int)] else [] := by
  induction l generalizing i with
  | nil => cases b <;> simp [risingFrom]
  | cons c l ih =>
    rw [List.cons_append, risingFrom, risingFrom, ih, List.length_cons, show i + 1 + l.length = i + (l.length + 1) by omega]
    cases c <;> simp
theorem rising_snoc (l : List Bool) (k : Nat) (b : Bool) (h : l[k]? = some b) : rising (l.take (k + 1)) = rising (l.take k) ++ if b = true then [(k : Int)] else [] := by
  have hk : k < l.length := (List.getElem?_eq_some_iff.1 h).1
  rw [List.take_add_one, h]
  unfold rising
  rw [Option.toList_some, risingFrom_append, List.length_take, Nat.min_eq_left (by omega), Nat.zero_add]
theorem risingFrom_length (i : Nat) (l : List Bool) : (risingFrom i l).length ≤ l.length := by
  induction l generalizing i with
  | nil => simp [risingFrom]
  | cons b l ih =>
    rw [risingFrom]
    have := ih (i + 1)
    split <;> simp <;> omega
theorem rising_length (l : List Bool) : (rising l).length ≤ l.length := risingFrom_length 0 l
theorem mem_risingFrom (i : Nat) (l : List Bool) (x : Int) : x ∈ risingFrom i l ↔ ∃ n : Nat, x = ((i + n : Nat) : Int) ∧ l[n]? = some true := by
  induction l generalizing i with
  | nil => simp [risingFrom]
  | cons b l ih =>
    rw [risingFrom]
    have key : (∃ n : Nat, x = ((i + n : Nat) : Int) ∧ (b :: l)[n]? = some true) ↔ ((x = (i : Int) ∧ b = true) ∨ ∃ n : Nat, x = ((i + 1 + n : Nat) : Int) ∧ l[n]? = some true) := by
      constructor
      · rintro ⟨n, hx, hn⟩
        cases n with
        | zero => simp at hn; exact .inl ⟨by simpa using hx, hn⟩
        | succ n => simp only [List.getElem?_cons_succ] at hn; exact .inr ⟨n, by omega, hn⟩
      · rintro (⟨hx, hb⟩ | ⟨n, hx, hn⟩)
        · exact ⟨0, by simpa using hx, by simp [hb]⟩
        · exact ⟨n + 1, by omega, by simpa using hn⟩
    rw [key]
    split
    · rename_i hb
      rw [List.mem_cons, ih]
      simp [hb]
    · rename_i hb
      rw [ih]
      simp [hb]
theorem mem_rising (l : List Bool) (x : Int) : x ∈ rising l ↔ ∃ n : Nat, x = (n : Int) ∧ l[n]? = some true := by
  unfold rising
  rw [mem_risingFrom]
  simp

end Go.Proofs.YtdlcooplllimeaaGreatDoor
