/- KT: TopL, TopR. -/
import Derived.Test.YtdlcooplllimeaaGreatDoorKT1
import Derived.Test.YtdlcooplllimeaaGreatDoorKT9
/- A state's cells: what they have, what is had from outside, what is reached, over weak tables too; the graph's answer is the same. No walk. -/
namespace Go.Proofs.YtdlcooplllimeaaGreatDoor
open Go.RowKit

namespace Top
/-- the cells to which values refer -/
def rfs (l : List (Int × Int)) : List Int := (l.filter fun v => v.1 == 5).map Prod.snd
def frVals (l : List Fr) : List (Int × Int) := l.flatMap fun f => f.self :: f.regs
def gens (l : List Fr) : List Int := (l.filter fun f => decide (0 ≤ f.gen)).map Fr.gen
def thRefs (t : Th) : List Int := rfs (frVals t.frames ++ [t.val]) ++ (if t.state = 1 then [t.on] else []) ++ gens t.frames
def roots (s : Stt) : List Int := (s.threads.flatMap thRefs) ++ s.ends.flatMap fun e => rfs [e.fn]
def cHas (c : Ce) : List (Int × Int) := if c.kind = 7 then [] else c.vals ++ frVals c.frames
def has (s : Stt) : List (List Int) := s.cells.map fun c => rfs (cHas c)
theorem mem_rfs {l : List (Int × Int)} {k : Int} : k ∈ rfs l ↔ (5, k) ∈ l := by
  unfold rfs
  rw [List.mem_map]
  constructor
  · rintro ⟨⟨a, b⟩, h, rfl⟩
    obtain ⟨h1, h2⟩ := List.mem_filter.1 h
    have : a = 5 := by simpa using h2
    subst this; exact h1
  · intro h; exact ⟨(5, k), List.mem_filter.2 ⟨h, by simp⟩, rfl⟩
theorem rfs_append (l r : List (Int × Int)) : rfs (l ++ r) = rfs l ++ rfs r := by unfold rfs; rw [List.filter_append, List.map_append]
theorem has_length (s : Stt) : (has s).length = s.cells.length := by simp [has]

/-- what is reached, over weak tables too -/
inductive Rc (s : Stt) : Nat → Prop
  | root {n : Nat} : (n : Int) ∈ roots s → Rc s n
  | has {n k : Nat} {c : Ce} : Rc s n → s.cells[n]? = some c → (k : Int) ∈ rfs (cHas c) → Rc s k
  | pair {n k v i : Nat} {c : Ce} {a : Int} : Rc s n → s.cells[n]? = some c → c.kind = 7 → c.vals[2 * i]? = some (a, (k : Int)) → Rc s k → c.vals[2 * i + 1]? = some (5, (v : Int)) → Rc s v

/-- pairs of key and value, both references -/
def prL : List (Int × Int) → List (Int × Int)
  | k :: v :: r => (if k.1 = 5 ∧ v.1 = 5 then [(k.2, v.2)] else []) ++ prL r
  | _ => []
theorem mem_prL {p : Int × Int} : ∀ {l : List (Int × Int)}, p ∈ prL l ↔ ∃ i, l[2 * i]? = some (5, p.1) ∧ l[2 * i + 1]? = some (5, p.2)
  | [] => by simp [prL]
  | [k] => by
    simp only [prL, List.not_mem_nil, false_iff]
    rintro ⟨i, -, h⟩
    simp at h
  | k :: v :: r => by
    unfold prL
    rw [List.mem_append, mem_prL (l := r)]
    constructor
    · rintro (h | ⟨i, h1, h2⟩)
      · split at h
        · rename_i hc
          simp at h
          subst h
          exact ⟨0, by simp [Prod.ext_iff, hc.1], by simp [Prod.ext_iff, hc.2]⟩
        · cases h
      · exact ⟨i + 1, by rw [show 2 * (i + 1) = 2 * i + 1 + 1 by omega]; simpa using h1, by rw [show 2 * (i + 1) + 1 = 2 * i + 1 + 1 + 1 by omega]; simpa using h2⟩
    · rintro ⟨i, h1, h2⟩
      cases i with
      | zero =>
        simp at h1 h2
        left
        rw [if_pos ⟨by rw [h1], by rw [h2]⟩, h1, h2]
        simp
      | succ i =>
        right
        rw [show 2 * (i + 1) = 2 * i + 1 + 1 by omega] at h1
        rw [show 2 * (i + 1) + 1 = 2 * i + 1 + 1 + 1 by omega] at h2
        exact ⟨i, by simpa using h1, by simpa using h2⟩
def cPairs (c : Ce) : List (Int × Int) := if c.kind = 7 then prL c.vals else []
/-- the pairs of some cells -/
def pairsOf (s : Stt) (of : List Int) : List (Int × Int) := of.flatMap fun n => match s.cells[n.toNat]? with | some c => cPairs c | none => []

/-- what a right state's cells keep to -/
structure Okr (s : Stt) : Prop where
  many : s.cells.length ≤ 300
  roots : ∀ k ∈ roots s, ∃ n : Nat, k = (n : Int) ∧ n < s.cells.length
  has : ∀ c ∈ s.cells, ∀ k, (5, k) ∈ c.vals ++ frVals c.frames → ∃ n : Nat, k = (n : Int) ∧ n < s.cells.length
  weak : ∀ c ∈ s.cells, c.kind = 7 → (∀ i v, c.vals[2 * i]? = some v → v.1 = 5) ∧ c.vals.length % 2 = 0
  gens : ∀ c ∈ s.cells, ∀ f ∈ c.frames, f.gen < 0
theorem Okr.ref {s : Stt} (h : Okr s) {c : Ce} (hc : c ∈ s.cells) {k : Int} (hk : k ∈ rfs (cHas c)) : ∃ n : Nat, k = (n : Int) ∧ n < s.cells.length := by
  rw [mem_rfs] at hk
  unfold cHas at hk
  split at hk
  · cases hk
  · exact h.has c hc k hk
theorem Rc.lt {s : Stt} (h : Okr s) {n : Nat} (hr : Rc s n) : n < s.cells.length := by
  induction hr with
  | root hm => obtain ⟨m, e, hm⟩ := h.roots _ hm; have := Int.ofNat.inj e; omega
  | has _ hc hk _ => obtain ⟨m, e, hm⟩ := h.ref (List.mem_of_getElem? hc) hk; have := Int.ofNat.inj e; omega
  | pair _ hc _ _ _ hv _ _ => obtain ⟨m, e, hm⟩ := h.has _ (List.mem_of_getElem? hc) _ (List.mem_append_left _ (List.mem_of_getElem? hv)); have := Int.ofNat.inj e; omega
open Classical in
noncomputable def rcB (s : Stt) : List Bool := (List.range s.cells.length).map fun n => decide (Rc s n)
theorem rcB_length (s : Stt) : (rcB s).length = s.cells.length := by simp [rcB]
theorem rcB_get {s : Stt} (h : Okr s) {n : Nat} : (rcB s)[n]? = some true ↔ Rc s n := by
  unfold rcB
  rw [List.getElem?_map]
  by_cases hn : n < s.cells.length
  · rw [List.getElem?_range hn]; simp
  · rw [List.getElem?_eq_none (by simp; omega)]
    simp only [Option.map_none]
    constructor
    · intro h; cases h
    · intro hr; exact absurd (hr.lt h) hn
theorem mem_of {s : Stt} (h : Okr s) {k : Int} : k ∈ rising (rcB s) ↔ ∃ n : Nat, k = (n : Int) ∧ Rc s n := by
  rw [mem_rising]
  exact ⟨fun ⟨n, h1, h2⟩ => ⟨n, h1, (rcB_get h).1 h2⟩, fun ⟨n, h1, h2⟩ => ⟨n, h1, (rcB_get h).2 h2⟩⟩
/-- WHAT WEAK TABLES KEEP: live over the pairs of the reached tables is reached -/
theorem live_iff {s : Stt} (h : Okr s) (n : Nat) : RT (has s) (roots s) (pairsOf s (rising (rcB s))) n ↔ Rc s n := by
  constructor
  · intro hr
    induction hr with
    | root hm => exact Rc.root hm
    | @edge n k l _ hl hk ih =>
      unfold has at hl
      rw [List.getElem?_map] at hl
      cases hc : s.cells[n]? with
      | none => rw [hc] at hl; cases hl
      | some c =>
        rw [hc] at hl
        injection hl with hl
        subst hl
        exact Rc.has ih hc hk
    | @pair k v _ hp ih =>
      unfold pairsOf at hp
      obtain ⟨m, hm, hp⟩ := List.mem_flatMap.1 hp
      obtain ⟨t, rfl, ht⟩ := (mem_of h).1 hm
      rw [Int.toNat_natCast] at hp
      cases hc : s.cells[t]? with
      | none => rw [hc] at hp; cases hp
      | some c =>
        rw [hc] at hp
        simp only at hp
        unfold cPairs at hp
        split at hp
        · rename_i hk
          obtain ⟨i, h1, h2⟩ := mem_prL.1 hp
          exact Rc.pair ht hc hk h1 ih h2
        · cases hp
  · intro hr
    induction hr with
    | root hm => exact RT.root hm
    | @has n k c _ hc hk ih => exact RT.edge ih (by unfold Top.has; rw [List.getElem?_map, hc]; rfl) hk
    | @pair n k v i c a hrn hc hkind h1 _ h2 _ ihk =>
      refine RT.pair ihk ?_
      unfold pairsOf
      refine List.mem_flatMap.2 ⟨(n : Int), (mem_of h).2 ⟨n, rfl, hrn⟩, ?_⟩
      rw [Int.toNat_natCast, hc]
      simp only
      unfold cPairs
      rw [if_pos hkind, mem_prL]
      have ha := (h.weak c (List.mem_of_getElem? hc) hkind).1 i _ h1
      simp only at ha
      subst ha
      exact ⟨i, h1, h2⟩
theorem live_eq {s : Stt} (h : Okr s) : fromL (has s) (roots s) (pairsOf s (rising (rcB s))) = rcB s := by
  classical
  unfold fromL rcB
  rw [has_length]
  refine List.map_congr_left fun n _ => ?_
  congr 1
  exact propext (live_iff h n)
end Top
end Go.Proofs.YtdlcooplllimeaaGreatDoor

/- reach: what the walk from cell to cell keeps; when nothing is left, what is seen is what is reached. No walk of code. -/
namespace Go.Proofs.YtdlcooplllimeaaGreatDoor
open Go.RowKit

namespace Top
/-- pairs of the tables that are reached -/
noncomputable def prR (s : Stt) : List (Int × Int) := pairsOf s (rising (rcB s))
theorem rt_iff {s : Stt} (h : Okr s) (n : Nat) : RT (has s) (roots s) (prR s) n ↔ Rc s n := live_iff h n
/-- the cells to which a frame refers -/
def frRefs (f : Fr) : List Int := rfs (f.self :: f.regs) ++ if 0 ≤ f.gen then [f.gen] else []
def fsRefs (l : List Fr) : List Int := l.flatMap frRefs
theorem mem_fsRefs {l : List Fr} {k : Int} : k ∈ fsRefs l ↔ k ∈ rfs (frVals l) ∨ k ∈ gens l := by
  unfold fsRefs frVals gens
  rw [List.mem_flatMap, mem_rfs, List.mem_flatMap, List.mem_map]
  constructor
  · rintro ⟨f, hf, hk⟩
    unfold frRefs at hk
    rcases List.mem_append.1 hk with hk | hk
    · exact .inl ⟨f, hf, mem_rfs.1 hk⟩
    · split at hk
      · rename_i hg
        simp at hk
        exact .inr ⟨f, List.mem_filter.2 ⟨hf, by simpa using hg⟩, hk.symm⟩
      · cases hk
  · rintro (⟨f, hf, hk⟩ | ⟨f, hf, hk⟩)
    · exact ⟨f, hf, by unfold frRefs; exact List.mem_append_left _ (mem_rfs.2 hk)⟩
    · obtain ⟨hf, hg⟩ := List.mem_filter.1 hf
      refine ⟨f, hf, ?_⟩
      unfold frRefs
      rw [if_pos (by simpa using hg)]
      exact List.mem_append_right _ (by simp [hk])
theorem fsRefs_cell {l : List Fr} (h : ∀ f ∈ l, f.gen < 0) : fsRefs l = rfs (frVals l) := by
  induction l with
  | nil => rfl
  | cons f l ih =>
    have h1 := h f (by simp)
    have h2 := ih fun g hg => h g (by simp [hg])
    unfold fsRefs frVals at *
    rw [List.flatMap_cons, List.flatMap_cons, rfs_append, h2]
    unfold frRefs
    rw [if_neg (by omega), List.append_nil]
theorem reachL_append (l r : List Int) (st : List Bool × List Int) : reachL (l ++ r) st = reachL r (reachL l st) := by unfold reachL; rw [List.foldl_append]

/-- what the walk keeps: what is seen, what is to be gone on from, the tables met -/
structure Seg (s : Stt) (seen : List Bool) (todo wk : List Int) : Prop where
  inv : Inv (has s) (roots s) (prR s) [] seen todo
  tab : ∀ (n : Nat) c, seen[n]? = some true → s.cells[n]? = some c → c.kind = 7 → (n : Int) ∉ todo → (n : Int) ∈ wk
  wk_ : ∀ x ∈ wk, ∃ (n : Nat) (c : Ce), x = (n : Int) ∧ seen[n]? = some true ∧ s.cells[n]? = some c ∧ c.kind = 7
  few : wk.length + (2 * unseen seen + todo.length) ≤ 2 * s.cells.length
theorem Seg.start (s : Stt) : Seg s (List.replicate s.cells.length false) [] [] := by
  have h := Inv.start (has s) (roots s) (prR s)
  rw [has_length] at h
  refine ⟨h, fun n c hn => ?_, fun x hx => (by cases hx), ?_⟩
  · rw [List.getElem?_replicate] at hn
    split at hn <;> simp at hn
  · have := unseen_le (List.replicate s.cells.length false)
    rw [List.length_replicate] at this
    simp
    omega
theorem reach1_mem {st : List Bool × List Int} {k : Int} {x : Int} : x ∈ (reach1 st k).2 ↔ x ∈ st.2 ∨ (x = k ∧ ¬ st.1.getD k.toNat false = true) := by
  unfold reach1
  split
  · rename_i h; exact ⟨.inl, fun h2 => h2.elim id fun e => absurd h e.2⟩
  · rename_i h
    rw [List.mem_append, List.mem_singleton]
    exact ⟨fun h2 => h2.imp id fun e => ⟨e, h⟩, fun h2 => h2.imp id fun e => e.1⟩
/-- what is new is to be gone on from -/
theorem reachL_new {l : List Int} (hl : ∀ x ∈ l, 0 ≤ x) : ∀ {st : List Bool × List Int} {n : Nat}, (reachL l st).1[n]? = some true → st.1[n]? = some true ∨ (n : Int) ∈ (reachL l st).2 := by
  induction l with
  | nil => intro st n h; exact .inl h
  | cons x l ih =>
    intro st n h
    have hx := hl x (by simp)
    have e : reachL (x :: l) st = reachL l (reach1 st x) := rfl
    rw [e] at h ⊢
    rcases ih (fun y hy => hl y (by simp [hy])) h with h1 | h1
    · unfold reach1 at h1
      split at h1
      · exact .inl h1
      · rename_i hs
        by_cases hn : n = x.toNat
        · right
          subst hn
          have : (x.toNat : Int) ∈ (reach1 st x).2 := reach1_mem.2 (.inr ⟨by omega, hs⟩)
          clear h1 h ih e
          generalize reach1 st x = st' at this ⊢
          induction l generalizing st' with
          | nil => exact this
          | cons y l ih =>
            show _ ∈ (reachL l (reach1 st' y)).2
            exact ih (fun z hz => hl z (by simp at hz ⊢; rcases hz with h | h <;> simp [h])) _ (reach1_mem.2 (.inl this))
        · left
          rw [List.getElem?_set_ne (by omega)] at h1
          exact h1
    · exact .inr h1
theorem reachL_sub {l : List Int} {x : Int} : ∀ {st : List Bool × List Int}, x ∈ st.2 → x ∈ (reachL l st).2 := by
  induction l with
  | nil => intro st h; exact h
  | cons y l ih => intro st h; exact ih (st := reach1 st y) (reach1_mem.2 (.inl h))
/-- some that are reached are come to -/
theorem Seg.come {s : Stt} {seen : List Bool} {todo wk l : List Int} (h : Seg s seen todo wk) (hl : ∀ x ∈ l, ∃ k : Nat, x = (k : Int) ∧ k < (has s).length ∧ RT (has s) (roots s) (prR s) k) :
    Seg s (reachL l (seen, todo)).1 (reachL l (seen, todo)).2 wk ∧ Grows seen (reachL l (seen, todo)).1 ∧ (∀ k : Nat, (k : Int) ∈ l → (reachL l (seen, todo)).1[k]? = some true) ∧
      2 * unseen (reachL l (seen, todo)).1 + (reachL l (seen, todo)).2.length ≤ 2 * unseen seen + todo.length := by
  obtain ⟨i1, i2, i3, i4⟩ := Inv.reachL (st := (seen, todo)) h.inv hl
  have hpos : ∀ x ∈ l, 0 ≤ x := fun x hx => by obtain ⟨k, rfl, -⟩ := hl x hx; omega
  refine ⟨⟨i1, fun n c hn hc hk ht => ?_, fun x hx => ?_, by have := h.few; have i4' : _ ≤ 2 * unseen seen + todo.length := i4; omega⟩, i2, i3, i4⟩
  · rcases reachL_new hpos hn with h1 | h1
    · exact h.tab n c h1 hc hk fun hm => ht (reachL_sub hm)
    · exact absurd h1 ht
  · obtain ⟨n, c, rfl, h1, h2, h3⟩ := h.wk_ x hx
    exact ⟨n, c, rfl, i2 n h1, h2, h3⟩
theorem has_get {s : Stt} {n : Nat} {c : Ce} (h : s.cells[n]? = some c) : (has s)[n]? = some (rfs (cHas c)) := by unfold has; rw [List.getElem?_map, h]; rfl
theorem has_right {s : Stt} (h : Okr s) : Right (has s) := by
  intro l hl x hx
  unfold has at hl
  obtain ⟨c, hc, rfl⟩ := List.mem_map.1 hl
  obtain ⟨k, e, hk⟩ := h.ref hc hx
  exact ⟨k, e, by rw [has_length]; exact hk⟩
/-- the last one is gone on from -/
theorem Seg.step {s : Stt} (hs : Okr s) {seen : List Bool} {todo wk : List Int} {n : Nat} (h : Seg s seen (todo ++ [(n : Int)]) wk) {c : Ce} (hc : s.cells[n]? = some c) :
    (c.kind ≠ 7 → Seg s (reachL (rfs (cHas c)) (seen, todo)).1 (reachL (rfs (cHas c)) (seen, todo)).2 wk) ∧ (c.kind = 7 → Seg s seen todo (wk ++ [(n : Int)])) ∧ Grows seen (reachL (rfs (cHas c)) (seen, todo)).1 ∧
      2 * unseen (reachL (rfs (cHas c)) (seen, todo)).1 + (reachL (rfs (cHas c)) (seen, todo)).2.length < 2 * unseen seen + (todo ++ [(n : Int)]).length := by
  obtain ⟨i1, i2, i3⟩ := h.inv.step (has_right hs) (l := rfs (cHas c)) (by rw [Int.toNat_natCast]; exact has_get hc)
  have hpos : ∀ x ∈ rfs (cHas c), 0 ≤ x := fun x hx => by obtain ⟨k, rfl, -⟩ := hs.ref (List.mem_of_getElem? hc) hx; omega
  have hn0 : seen[n]? = some true := by obtain ⟨m, e, hm⟩ := h.inv.todo_ (n : Int) (by simp); rw [Int.ofNat.inj e]; exact hm
  refine ⟨fun hk => ⟨i1, fun m d hm hd hd7 ht => ?_, fun x hx => ?_, by have := h.few; omega⟩, fun hk => ?_, i2, i3⟩
  · rcases reachL_new hpos hm with h1 | h1
    · refine h.tab m d h1 hd hd7 fun hmem => ?_
      rcases List.mem_append.1 hmem with h2 | h2
      · exact ht (reachL_sub h2)
      · simp at h2
        obtain rfl : m = n := by omega
        rw [hc] at hd
        injection hd with hd
        subst hd
        exact hk hd7
    · exact absurd h1 ht
  · obtain ⟨m, d, rfl, h1, h2, h3⟩ := h.wk_ x hx
    exact ⟨m, d, rfl, i2 m h1, h2, h3⟩
  · have e0 : rfs (cHas c) = [] := by unfold cHas; rw [if_pos hk]; rfl
    rw [e0] at i1
    refine ⟨i1, fun m d hm hd hd7 ht => ?_, fun x hx => ?_, by have := h.few; simp at this ⊢; omega⟩
    · by_cases hmn : m = n
      · subst hmn; simp
      · exact List.mem_append_left _ (h.tab m d hm hd hd7 fun hmem => by
          rcases List.mem_append.1 hmem with h2 | h2
          · exact ht h2
          · simp at h2; omega)
    · rcases List.mem_append.1 hx with h1 | h1
      · exact h.wk_ x h1
      · simp at h1; exact ⟨n, c, h1, hn0, hc, hk⟩
/-- nothing is left: what is seen is what is reached -/
theorem Seg.done {s : Stt} (hs : Okr s) {seen : List Bool} {wk : List Int} (h : Seg s seen [] wk) (hr : ∀ n : Nat, (n : Int) ∈ roots s → seen[n]? = some true)
    (hp : ∀ (n : Nat) c (i : Nat) (k v : Nat) (a : Int), (n : Int) ∈ wk → s.cells[n]? = some c → c.vals[2 * i]? = some (a, (k : Int)) → seen[k]? = some true → c.vals[2 * i + 1]? = some (5, (v : Int)) → seen[v]? = some true) : seen = rcB s := by
  have hsound : ∀ n, seen[n]? = some true → Rc s n := fun n hn => (rt_iff hs n).1 (h.inv.sound n hn)
  apply bools_ext (by rw [rcB_length, h.inv.len, has_length])
  intro n
  rw [rcB_get hs]
  constructor
  · exact hsound n
  · intro hn
    induction hn with
    | root hm => exact hr _ hm
    | @has n k c hn hc hk ih => exact h.inv.closed n k _ ih (has_get hc) hk (by simp) (by simp)
    | @pair n k v i c a hn hc hkind hkey hrk hval ihn ihk => exact hp n c i k v a (h.tab n c ihn hc hkind (by simp)) hc hkey ihk hval
theorem roots_lt {s : Stt} (hs : Okr s) {x : Int} (hx : x ∈ roots s) : ∃ k : Nat, x = (k : Int) ∧ k < (has s).length ∧ RT (has s) (roots s) (prR s) k := by
  obtain ⟨n, rfl, hn⟩ := hs.roots x hx
  exact ⟨n, rfl, by rw [has_length]; exact hn, .root hx⟩
end Top
end Go.Proofs.YtdlcooplllimeaaGreatDoor
