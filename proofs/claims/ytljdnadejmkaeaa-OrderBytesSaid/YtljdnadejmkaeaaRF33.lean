/- RF: LiveL. -/
import Derived.Test.YtljdnadejmkaeaaRF22
import Derived.Test.YtljdnadejmkaeaaRF25
/- live: the plain law: a trace's fault, and a value's span, the program's and the reference's. -/
namespace Go.Proofs.Ytljdnadejmkaeaa
open Go.RowKit

namespace Liv
/-- what an instruction's exit asks -/
def exitVals (exits : List Ex) (e : Int) : List Int := if e < 0 then [] else (exits[e.toNat]?).elim [] vals
/-- the fault of one instruction -/
def oneF (ins : List TI) (exits : List Ex) (k : Nat) (x : TI) : Int :=
  if isOp x.op = false then 7
  else if ((asks x).any (bad ins k) || decide (x.exit < -1) || decide ((exits.length : Int) ≤ x.exit)) = true then 3
  else if (exitVals exits x.exit).any (bad ins k) = true then 3 else 0
def ones (ins : List TI) (exits : List Ex) : List Int := ins.zipIdx.map fun p => oneF ins exits p.2 p.1
/-- the first that is not nought -/
def fst (l : List Int) : Int := (l.find? (fun e => e != 0)).getD 0
theorem fst_hit (l : List Int) (k : Nat) (e : Int) (h : l[k]? = some e) (he : e ≠ 0) (hno : (l.take k).any (fun e => e != 0) = false) : fst l = e := by
  unfold fst
  have : l = l.take k ++ l.drop k := (List.take_append_drop k l).symm
  rw [this, List.find?_append]
  have h1 : (l.take k).find? (fun e => e != 0) = none := by
    rw [List.find?_eq_none]; intro x hx hx2
    exact absurd (List.any_eq_true.2 ⟨x, hx, hx2⟩) (by rw [hno]; decide)
  have h2 : (l.drop k).find? (fun e => e != 0) = some e := by
    have hk := (List.getElem?_eq_some_iff.1 h).1
    rw [List.drop_eq_getElem_cons hk]
    have : l[k] = e := by rw [List.getElem?_eq_getElem hk] at h; exact Option.some.inj h
    rw [this, List.find?_cons_of_pos (by simpa using he)]
  rw [h1, h2]; rfl
theorem fst_no (l : List Int) (hno : l.any (fun e => e != 0) = false) : fst l = 0 := by
  unfold fst
  rw [List.find?_eq_none.2 (fun x hx hx2 => absurd (List.any_eq_true.2 ⟨x, hx, hx2⟩) (by rw [hno]; decide))]; rfl
theorem ones_get (ins : List TI) (exits : List Ex) (k : Nat) (x : TI) (h : ins[k]? = some x) : (ones ins exits)[k]? = some (oneF ins exits k x) := by
  unfold ones; rw [List.getElem?_map, List.getElem?_zipIdx, h]; simp
theorem ones_length (ins : List TI) (exits : List Ex) : (ones ins exits).length = ins.length := by unfold ones; rw [List.length_map, List.length_zipIdx]
/-- the fault of what stands behind the instructions -/
def tailF (ins : List TI) (exits : List Ex) (turn back : Ex) (loop : Int) : Int :=
  if (decide (0 < loop) && (vals turn).any (bad ins loop)) = true then 3
  else if ((vals back).any (bad ins ins.length) || exits.any (fun x => (vals x).any (bad ins ins.length))) = true then 3
  else if (large turn || large back || exits.any large) = true then 2 else 0
def fault (ins : List TI) (exits : List Ex) (turn back : Ex) (loop : Int) : Int :=
  if 300 < ins.length ∨ 200 < exits.length then 2
  else if loop < 0 ∨ (ins.length : Int) < loop then 3
  else if fst (ones ins exits) ≠ 0 then fst (ones ins exits) else tailF ins exits turn back loop

/-! ### spans -/
def updE (o : List (Int × Int)) (e : Int × Int) : List (Int × Int) := o.set e.1.toNat (e.1, max (o.getD e.1.toNat (-1, -1)).2 e.2)
def runE (es : List (Int × Int)) (o : List (Int × Int)) : List (Int × Int) := es.foldl updE o
def evs (n loop at_ : Int) (l : List Int) : List (Int × Int) := l.map fun v => (v, if v < loop ∧ loop ≤ at_ then n else at_)
def insEvs (n loop : Int) (exits : List Ex) (k : Nat) (x : TI) : List (Int × Int) := evs n loop k (asks x) ++ evs n loop k (exitVals exits x.exit)
def turnEvs (turn : Ex) (loop : Int) : List (Int × Int) := if 0 < loop then (vals turn).map (fun v => (v, loop)) else []
def allEvs (ins : List TI) (exits : List Ex) (turn back : Ex) (loop : Int) : List (Int × Int) :=
  ins.zipIdx.flatMap (fun p => insEvs ins.length loop exits p.2 p.1) ++ evs ins.length loop ins.length (vals back) ++ turnEvs turn loop
def spans (ins : List TI) (exits : List Ex) (turn back : Ex) (loop : Int) : List (Int × Int) := runE (allEvs ins exits turn back loop) (List.replicate ins.length (-1, -1))

theorem updE_length (o : List (Int × Int)) (e : Int × Int) : (updE o e).length = o.length := by unfold updE; rw [List.length_set]
theorem runE_length (es : List (Int × Int)) : ∀ o : List (Int × Int), (runE es o).length = o.length := by
  induction es with
  | nil => intro o; rfl
  | cons e es ih => intro o; show (runE es (updE o e)).length = _; rw [ih, updE_length]
theorem runE_snoc (es : List (Int × Int)) (e : Int × Int) (o : List (Int × Int)) : runE (es ++ [e]) o = updE (runE es o) e := by unfold runE; rw [List.foldl_append]; rfl
theorem runE_app (es fs : List (Int × Int)) (o : List (Int × Int)) : runE (es ++ fs) o = runE fs (runE es o) := by unfold runE; rw [List.foldl_append]
theorem runE_take (es : List (Int × Int)) (k : Nat) (e : Int × Int) (o : List (Int × Int)) (h : es[k]? = some e) : runE (es.take (k + 1)) o = updE (runE (es.take k) o) e := by
  rw [List.take_add_one, h]; exact runE_snoc _ _ _

/-- what events make of one place -/
def stepK (k : Int) (s : Int × Int) (e : Int × Int) : Int × Int := if e.1 = k then (k, max s.2 e.2) else s
def res (k : Int) (es : List (Int × Int)) : Int × Int := es.foldl (stepK k) (-1, -1)
theorem runE_get (k : Nat) (es : List (Int × Int)) (n : Nat) (hk : k < n) : ∀ (o : List (Int × Int)) (s : Int × Int), o.length = n → o[k]? = some s → (∀ e ∈ es, 0 ≤ e.1 ∧ e.1 < n) → (runE es o)[k]? = some (es.foldl (stepK k) s) := by
  induction es with
  | nil => intro o s _ h _; exact h
  | cons e es ih =>
    intro o s ho h hes
    obtain ⟨h0, h1⟩ := hes e (List.mem_cons_self ..)
    show (runE es (updE o e))[k]? = some (es.foldl (stepK k) (stepK k s e))
    refine ih _ _ (by rw [updE_length]; exact ho) ?_ (fun e' he' => hes e' (List.mem_cons_of_mem _ he'))
    unfold updE stepK
    obtain ⟨j, hj⟩ : ∃ j : Nat, e.1 = (j : Int) := ⟨e.1.toNat, by omega⟩
    rw [hj, Int.toNat_natCast]
    by_cases hjk : j = k
    · subst hjk
      rw [List.getElem?_set_self (by omega), if_pos rfl, List.getD_eq_getElem?_getD, h]; rfl
    · rw [List.getElem?_set_ne hjk, if_neg (by omega)]; exact h
theorem fold_none (k : Int) (es : List (Int × Int)) (h : ∀ e ∈ es, e.1 ≠ k) : ∀ s, es.foldl (stepK k) s = s := by
  induction es with
  | nil => intro s; rfl
  | cons e es ih =>
    intro s
    rw [List.foldl_cons]
    unfold stepK
    rw [if_neg (h e (List.mem_cons_self ..))]
    exact ih (fun e' he' => h e' (List.mem_cons_of_mem _ he')) s
theorem fold_max (k M : Int) (es : List (Int × Int)) : ∀ s : Int × Int, (∀ e ∈ es, e.1 = k → e.2 ≤ M) → s.2 ≤ M → ((∃ e ∈ es, e.1 = k ∧ e.2 = M) ∨ s = (k, M)) → es.foldl (stepK k) s = (k, M) := by
  induction es with
  | nil =>
    intro s _ _ h
    rcases h with ⟨e, he, -⟩ | h
    · cases he
    · exact h
  | cons e es ih =>
    intro s hle hs h
    rw [List.foldl_cons]
    refine ih _ (fun e' he' => hle e' (List.mem_cons_of_mem _ he')) ?_ ?_
    · unfold stepK; split
      · have := hle e (List.mem_cons_self ..) (by assumption)
        show max s.2 e.2 ≤ M
        omega
      · exact hs
    · rcases h with ⟨e', he', h1, h2⟩ | h
      · rcases List.mem_cons.1 he' with rfl | he'
        · right; unfold stepK; rw [if_pos h1, h2]; congr 1; omega
        · exact .inl ⟨e', he', h1, h2⟩
      · right
        subst h
        unfold stepK; split
        · have := hle e (List.mem_cons_self ..) (by assumption)
          congr 1; show max M e.2 = M; omega
        · rfl
theorem res_none (k : Int) (es : List (Int × Int)) (h : ∀ e ∈ es, e.1 ≠ k) : res k es = (-1, -1) := fold_none k es h _
theorem res_max (k M : Int) (es : List (Int × Int)) (h1 : ∀ e ∈ es, e.1 = k → e.2 ≤ M) (hM : 0 ≤ M) (h : ∃ e ∈ es, e.1 = k ∧ e.2 = M) : res k es = (k, M) := fold_max k M es _ h1 (by show (-1 : Int) ≤ M; omega) (.inl h)

/-! ### the reference's span -/
def insAsk (ins : List TI) (exits : List Ex) (v : Int) (a : Nat) : Bool := (ins[a]?).elim false fun x => (asks x).contains v || (exitVals exits x.exit).contains v
def asked (ins : List TI) (exits : List Ex) (turn back : Ex) (loop : Int) (v : Int) (a : Nat) : Bool :=
  if a = ins.length then (vals back).contains v || (decide (loop = a) && decide (0 < a) && (vals turn).contains v)
  else insAsk ins exits v a || (decide (0 < loop) && decide ((a : Int) = loop) && (vals turn).contains v)
def within (ins : List TI) (exits : List Ex) (back : Ex) (loop : Int) (v : Int) (a : Nat) : Bool :=
  if a = ins.length then (vals back).contains v else decide (loop ≤ a) && insAsk ins exits v a
def lastR (p : Nat → Bool) : Nat → Int
  | 0 => -1
  | a + 1 => if p a = true then (a : Int) else lastR p a
def brk (ins : List TI) (exits : List Ex) (turn back : Ex) (loop : Int) (v : Int) (a : Nat) : Bool := asked ins exits turn back loop v a && within ins exits back loop v a && decide (v < loop)
def lastOf (ins : List TI) (exits : List Ex) (turn back : Ex) (loop : Int) (v : Int) : Int :=
  if (List.range (ins.length + 1)).any (brk ins exits turn back loop v) = true then ins.length else lastR (asked ins exits turn back loop v) (ins.length + 1)
def spanR (ins : List TI) (exits : List Ex) (turn back : Ex) (loop : Int) (v : Int) : Int × Int :=
  if lastOf ins exits turn back loop v < 0 then (-1, -1) else (v, lastOf ins exits turn back loop v)

theorem lastR_le (p : Nat → Bool) (n : Nat) : -1 ≤ lastR p n ∧ lastR p n < n := by
  induction n with
  | zero => exact ⟨Int.le_refl _, by show (-1 : Int) < 0; omega⟩
  | succ a ih => unfold lastR; split <;> omega
theorem lastR_spec (p : Nat → Bool) (n : Nat) : (lastR p n = -1 ∧ ∀ a, a < n → p a = false) ∨ ∃ a : Nat, a < n ∧ lastR p n = a ∧ p a = true ∧ ∀ b, b < n → p b = true → b ≤ a := by
  induction n with
  | zero => exact .inl ⟨rfl, fun a h => by omega⟩
  | succ m ih =>
    unfold lastR
    cases hp : p m with
    | true => exact .inr ⟨m, by omega, rfl, hp, fun b hb _ => by omega⟩
    | false =>
      rw [if_neg (by decide)]
      rcases ih with ⟨h1, h2⟩ | ⟨a, h1, h2, h3, h4⟩
      · refine .inl ⟨h1, fun a ha => ?_⟩
        by_cases h : a = m
        · rw [h]; exact hp
        · exact h2 a (by omega)
      · refine .inr ⟨a, by omega, h2, h3, fun b hb hb2 => ?_⟩
        by_cases h : b = m
        · rw [h, hp] at hb2; cases hb2
        · exact h4 b (by omega) hb2

theorem mem_ins (ins : List TI) (exits : List Ex) (n loop : Int) (e : Int × Int) :
    e ∈ ins.zipIdx.flatMap (fun p => insEvs n loop exits p.2 p.1) ↔ ∃ (a : Nat), a < ins.length ∧ insAsk ins exits e.1 a = true ∧ e.2 = if e.1 < loop ∧ loop ≤ a then n else (a : Int) := by
  rw [List.mem_flatMap]
  constructor
  · rintro ⟨⟨x, a⟩, hm, he⟩
    rw [List.mem_zipIdx_iff_getElem?] at hm
    have ha := (List.getElem?_eq_some_iff.1 hm).1
    refine ⟨a, ha, ?_, ?_⟩
    · unfold insAsk; rw [hm]
      unfold insEvs evs at he
      rw [← List.map_append, List.mem_map] at he
      obtain ⟨v, hv, rfl⟩ := he
      rw [List.mem_append] at hv
      simpa using hv
    · unfold insEvs evs at he
      rw [← List.map_append, List.mem_map] at he
      obtain ⟨v, hv, rfl⟩ := he
      rfl
  · rintro ⟨a, ha, hq, he⟩
    obtain ⟨x, hx⟩ : ∃ x, ins[a]? = some x := ⟨_, List.getElem?_eq_getElem ha⟩
    refine ⟨(x, a), by rw [List.mem_zipIdx_iff_getElem?]; exact hx, ?_⟩
    unfold insEvs evs
    rw [← List.map_append, List.mem_map]
    refine ⟨e.1, ?_, ?_⟩
    · unfold insAsk at hq; rw [hx] at hq
      rw [List.mem_append]
      simpa using hq
    · show (e.1, _) = e
      rw [← he]
theorem mem_back (n loop : Int) (l : List Int) (e : Int × Int) : e ∈ evs n loop n l ↔ e.1 ∈ l ∧ e.2 = n := by
  unfold evs
  rw [List.mem_map]
  constructor
  · rintro ⟨v, hv, rfl⟩; exact ⟨hv, by show (if _ then n else n) = n; split <;> rfl⟩
  · rintro ⟨h1, h2⟩; exact ⟨e.1, h1, by rw [show (if e.1 < loop ∧ loop ≤ n then n else n) = n by split <;> rfl, ← h2]⟩
theorem mem_turn (turn : Ex) (loop : Int) (e : Int × Int) : e ∈ turnEvs turn loop ↔ 0 < loop ∧ e.1 ∈ vals turn ∧ e.2 = loop := by
  unfold turnEvs
  split
  · rename_i h
    rw [List.mem_map]
    constructor
    · rintro ⟨v, hv, rfl⟩; exact ⟨h, hv, rfl⟩
    · rintro ⟨-, h1, h2⟩; exact ⟨e.1, h1, by rw [← h2]⟩
  · rename_i h
    constructor
    · intro h; cases h
    · rintro ⟨h1, -⟩; exact absurd h1 h

/-- the program's span is the reference's -/
theorem res_span (ins : List TI) (exits : List Ex) (turn back : Ex) (loop : Int) (v : Int) (hl0 : 0 ≤ loop) (hl1 : loop ≤ ins.length) :
    res v (allEvs ins exits turn back loop) = spanR ins exits turn back loop v := by
  have hmem : ∀ e : Int × Int, e ∈ allEvs ins exits turn back loop ↔ (∃ (a : Nat), a < ins.length ∧ insAsk ins exits e.1 a = true ∧ e.2 = if e.1 < loop ∧ loop ≤ a then (ins.length : Int) else (a : Int)) ∨ (e.1 ∈ vals back ∧ e.2 = ins.length) ∨ (0 < loop ∧ e.1 ∈ vals turn ∧ e.2 = loop) := by
    intro e
    unfold allEvs
    rw [List.mem_append, List.mem_append, mem_ins, mem_back, mem_turn, or_assoc]
  have hle : ∀ e ∈ allEvs ins exits turn back loop, e.1 = v → e.2 ≤ ins.length := by
    intro e he _
    rcases (hmem e).1 he with ⟨a, h1, -, h3⟩ | ⟨-, h3⟩ | ⟨-, -, h3⟩
    · rw [h3]; split <;> omega
    · omega
    · omega
  unfold spanR
  by_cases hb : (List.range (ins.length + 1)).any (brk ins exits turn back loop v) = true
  · have hlast : lastOf ins exits turn back loop v = ins.length := by unfold lastOf; rw [if_pos hb]
    rw [hlast, if_neg (by omega)]
    refine res_max v _ _ hle (by omega) ?_
    obtain ⟨a, ha, hq⟩ := List.any_eq_true.1 hb
    rw [List.mem_range] at ha
    unfold brk at hq
    rw [Bool.and_eq_true, Bool.and_eq_true, decide_eq_true_eq] at hq
    obtain ⟨⟨-, hw⟩, hv⟩ := hq
    unfold within at hw
    split at hw
    · exact ⟨(v, ins.length), (hmem _).2 (.inr (.inl ⟨by simpa using hw, rfl⟩)), rfl, rfl⟩
    · rw [Bool.and_eq_true, decide_eq_true_eq] at hw
      exact ⟨(v, ins.length), (hmem _).2 (.inl ⟨a, by omega, hw.2, by show (ins.length : Int) = if v < loop ∧ loop ≤ a then _ else _; rw [if_pos ⟨hv, hw.1⟩]⟩), rfl, rfl⟩
  · have hlast : lastOf ins exits turn back loop v = lastR (asked ins exits turn back loop v) (ins.length + 1) := by unfold lastOf; rw [if_neg hb]
    rw [hlast]
    have hnb : ∀ a, a < ins.length + 1 → brk ins exits turn back loop v a = false := by
      intro a ha
      cases hq : brk ins exits turn back loop v a with
      | false => rfl
      | true => exact absurd (List.any_eq_true.2 ⟨a, List.mem_range.2 ha, hq⟩) hb
    -- an event of v is a place at which it is asked
    have hev : ∀ e ∈ allEvs ins exits turn back loop, e.1 = v → ∃ a : Nat, a < ins.length + 1 ∧ asked ins exits turn back loop v a = true ∧ e.2 = a := by
      intro e he hv
      rcases (hmem e).1 he with ⟨a, h1, h2, h3⟩ | ⟨h2, h3⟩ | ⟨h0, h2, h3⟩
      · rw [hv] at h2 h3
        have hask : asked ins exits turn back loop v a = true := by unfold asked; rw [if_neg (by omega), h2]; rfl
        have := hnb a (by omega)
        unfold brk at this
        rw [hask] at this
        have hn : ¬ (v < loop ∧ loop ≤ a) := by
          rintro ⟨k1, k2⟩
          have : within ins exits back loop v a = true := by unfold within; rw [if_neg (by omega), h2]; simp [k2]
          simp_all
        rw [if_neg hn] at h3
        exact ⟨a, by omega, hask, h3⟩
      · rw [hv] at h2
        exact ⟨ins.length, by omega, by unfold asked; rw [if_pos rfl]; simp [h2], h3⟩
      · rw [hv] at h2
        refine ⟨loop.toNat, by omega, ?_, by omega⟩
        unfold asked
        have e1 : (loop.toNat : Int) = loop := by omega
        split
        · simp [h2, e1]; right; omega
        · simp [h2, e1, h0]
    have hae : ∀ a, a < ins.length + 1 → asked ins exits turn back loop v a = true → ∃ e ∈ allEvs ins exits turn back loop, e.1 = v ∧ e.2 = a := by
      intro a ha hq
      have hq' := hq
      unfold asked at hq
      split at hq
      · rename_i h
        rw [Bool.or_eq_true] at hq
        rcases hq with h1 | h1
        · exact ⟨(v, ins.length), (hmem _).2 (.inr (.inl ⟨by simpa using h1, rfl⟩)), rfl, by rw [h]⟩
        · simp only [Bool.and_eq_true, decide_eq_true_eq] at h1
          exact ⟨(v, loop), (hmem _).2 (.inr (.inr ⟨by omega, by simpa using h1.2, rfl⟩)), rfl, h1.1.1⟩
      · rename_i h
        rw [Bool.or_eq_true] at hq
        rcases hq with h1 | h1
        · refine ⟨(v, a), (hmem _).2 (.inl ⟨a, by omega, h1, ?_⟩), rfl, rfl⟩
          have hb2 := hnb a (by omega)
          unfold brk at hb2
          rw [hq'] at hb2
          have hn : ¬ (v < loop ∧ loop ≤ a) := by
            rintro ⟨k1, k2⟩
            have : within ins exits back loop v a = true := by unfold within; rw [if_neg h, h1]; simp [k2]
            simp_all
          rw [if_neg hn]
        · simp only [Bool.and_eq_true, decide_eq_true_eq] at h1
          exact ⟨(v, loop), (hmem _).2 (.inr (.inr ⟨h1.1.1, by simpa using h1.2, rfl⟩)), rfl, h1.1.2.symm⟩
    rcases lastR_spec (asked ins exits turn back loop v) (ins.length + 1) with ⟨h1, h2⟩ | ⟨a, h1, h2, h3, h4⟩
    · rw [h1, if_pos (by omega)]
      refine res_none v _ fun e he hv => ?_
      obtain ⟨a, ha, hq, -⟩ := hev e he hv
      rw [h2 a ha] at hq; cases hq
    · rw [h2, if_neg (by omega)]
      refine res_max v _ _ (fun e he hv => ?_) (by omega) (hae a h1 h3)
      obtain ⟨b, hb1, hb2, hb3⟩ := hev e he hv
      have := h4 b hb1 hb2
      omega

theorem spans_get (ins : List TI) (exits : List Ex) (turn back : Ex) (loop : Int) (k : Nat) (hk : k < ins.length) (hl0 : 0 ≤ loop) (hl1 : loop ≤ ins.length) (hes : ∀ e ∈ allEvs ins exits turn back loop, 0 ≤ e.1 ∧ e.1 < ins.length) :
    (spans ins exits turn back loop)[k]? = some (spanR ins exits turn back loop k) := by
  unfold spans
  rw [runE_get k _ ins.length hk _ (-1, -1) (by simp) (by rw [List.getElem?_replicate, if_pos hk]) hes]
  exact congrArg some (res_span ins exits turn back loop k hl0 hl1)
theorem spans_length (ins : List TI) (exits : List Ex) (turn back : Ex) (loop : Int) : (spans ins exits turn back loop).length = ins.length := by
  unfold spans; rw [runE_length, List.length_replicate]

/-! ### of a trace that is right, all that is asked is within -/
theorem bad_in {ins : List TI} {at_ : Int} {v : Int} (h : bad ins at_ v = false) : 0 ≤ v ∧ v < at_ ∧ v < ins.length := by
  unfold bad at h
  simp only [Bool.or_eq_false_iff, decide_eq_false_iff_not] at h
  obtain ⟨⟨h1, h2⟩, h3⟩ := h
  refine ⟨by omega, by omega, ?_⟩
  by_cases h4 : v < ins.length
  · exact h4
  · rw [List.getElem?_eq_none (by omega)] at h3; cases h3
theorem any_in {ins : List TI} {at_ : Int} {l : List Int} (h : l.any (bad ins at_) = false) : ∀ v ∈ l, 0 ≤ v ∧ v < at_ ∧ v < ins.length := fun v hv =>
  bad_in (by cases hq : bad ins at_ v with
    | false => rfl
    | true => exact absurd (List.any_eq_true.2 ⟨v, hv, hq⟩) (by rw [h]; decide))
/-- what a right trace has -/
structure Right (ins : List TI) (exits : List Ex) (turn back : Ex) (loop : Int) : Prop where
  n : ins.length ≤ 300
  e : exits.length ≤ 200
  l0 : 0 ≤ loop
  l1 : loop ≤ ins.length
  one : ∀ (k : Nat) (x : TI), ins[k]? = some x → oneF ins exits k x = 0
  turn : 0 < loop → (vals turn).any (bad ins loop) = false
  back : (vals back).any (bad ins ins.length) = false
theorem right_of {ins : List TI} {exits : List Ex} {turn back : Ex} {loop : Int} (h : fault ins exits turn back loop = 0) : Right ins exits turn back loop := by
  unfold fault at h
  split at h
  · cases h
  rename_i h1
  split at h
  · cases h
  rename_i h2
  split at h
  · rename_i h3; exact absurd h h3
  rename_i h3
  unfold tailF at h
  split at h
  · cases h
  rename_i h4
  split at h
  · cases h
  rename_i h5
  refine ⟨by omega, by omega, by omega, by omega, fun k x hx => ?_, fun hl => ?_, ?_⟩
  · have hg := ones_get ins exits k x hx
    by_cases hz : oneF ins exits k x = 0
    · exact hz
    · exfalso
      apply h3
      unfold fst
      intro h6
      cases hf : (ones ins exits).find? (fun e => e != 0) with
      | none => exact absurd (List.find?_eq_none.1 hf _ (List.mem_of_getElem? hg)) (by simpa using hz)
      | some y =>
        rw [hf] at h6
        have := List.find?_some hf
        simp at this h6
        exact this h6
  · simp [hl] at h4
    cases hq : (vals turn).any (bad ins loop) with
    | false => rfl
    | true =>
      obtain ⟨v, hv, hb⟩ := List.any_eq_true.1 hq
      exact absurd (h4 v hv) (by rw [hb]; decide)
  · simp only [Bool.or_eq_true, not_or, Bool.not_eq_true] at h5
    exact h5.1
theorem one_asks {ins : List TI} {exits : List Ex} {k : Nat} {x : TI} (h : oneF ins exits k x = 0) : (∀ v ∈ asks x, 0 ≤ v ∧ v < ins.length) ∧ (∀ v ∈ exitVals exits x.exit, 0 ≤ v ∧ v < ins.length) ∧ x.exit < exits.length ∧ -1 ≤ x.exit := by
  unfold oneF at h
  split at h
  · cases h
  split at h
  · cases h
  rename_i h1
  split at h
  · cases h
  rename_i h2
  simp only [Bool.or_eq_true, not_or, Bool.not_eq_true, decide_eq_false_iff_not] at h1
  obtain ⟨⟨h3, h4⟩, h5⟩ := h1
  refine ⟨fun v hv => ?_, fun v hv => ?_, by omega, by omega⟩
  · have := any_in h3 v hv; omega
  · have := any_in (by simpa using h2 : (exitVals exits x.exit).any (bad ins k) = false) v hv; omega
theorem right_evs {ins : List TI} {exits : List Ex} {turn back : Ex} {loop : Int} (h : Right ins exits turn back loop) : ∀ e ∈ allEvs ins exits turn back loop, 0 ≤ e.1 ∧ e.1 < ins.length := by
  intro e he
  unfold allEvs at he
  rw [List.mem_append, List.mem_append, mem_ins, mem_back, mem_turn] at he
  rcases he with (⟨a, h1, h2, -⟩ | ⟨h1, -⟩) | ⟨h0, h1, -⟩
  · obtain ⟨x, hx⟩ : ∃ x, ins[a]? = some x := ⟨_, List.getElem?_eq_getElem h1⟩
    obtain ⟨k1, k2, -⟩ := one_asks (h.one a x hx)
    unfold insAsk at h2
    rw [hx] at h2
    have h2' : e.1 ∈ asks x ∨ e.1 ∈ exitVals exits x.exit := by simpa using h2
    rcases h2' with h3 | h3
    · exact k1 _ h3
    · exact k2 _ h3
  · have := any_in h.back _ h1; omega
  · have := any_in (h.turn h0) _ h1; omega
end Liv

end Go.Proofs.Ytljdnadejmkaeaa
