/- RB: Ord12, Ord13, Ord14, Ord15, Ord16, Ord17, Ord18, Ord19, Ord20, Opens, Open, Wrap. -/
import Derived.Test.YtljdnadejmkaeaaRB1
import Derived.Test.YtljdnadejmkaeaaRB2
import Derived.Test.YtljdnadejmkaeaaRB3
import Derived.Deep.OwnRows
import Derived.Deep.DrawnRows
import Derived.Test.YtljdnadejmkaeaaRows
import Derived.ProofKit
import Derived.OpenShut
import Derived.JoinedCond
import Derived.Deep.CondSized
/- order.Check's tests of exits; the list of all exits. -/
namespace Go.Proofs.Ytljdnadejmkaeaa
open Go.RowKit
attribute [local go_sem ↓] Go.wp_at_zero Go.wp_at_succ

def PredX (P : Program) (g : Nat) (lb : Array Value) (p : RE → Bool) (l : List RE) (B : Nat) (w : World) : Prop :=
  ∀ (W : World) (x : RE) (SA MA : Option Addr) (sc mc : Nat), x ∈ l → At W B SA x.sets → At W B MA x.makes → Below w.heap.size w W → Calls P g (#[.agg #[.int .i64 x.at_, .int .i64 x.steps, .slice SA x.sets.length sc, .slice MA x.makes.length mc]] ++ lb) W fun e W' => e = .returned (.bool (p x)) ∧ Below W.heap.size W W'

set_option maxHeartbeats 800000 in
set_option maxRecDepth 100000 in
theorem indexFuncRE_any (A : Option Addr) (c B g : Nat) (lb : Array Value) (p : RE → Bool) (l : List RE) (w : World) (h : At w B A l) (hB : B ≤ w.heap.size) (hl : l.length ≤ 9223372036854775807)
    (eg : ∀ args w, (callFunc g args).run Try.prog w = .ok (.enter g args) w) (hp : PredX Try.prog g lb p l B w) :
    Calls Try.prog 123 #[.slice A l.length c, .func (.func g) #[] lb] w fun e w' => e = .returned (.int .i64 (idxI p l)) ∧ Below w.heap.size w w' := by
  have H := Lib.hid h; clear h
  have HP := Lib.hid hp; clear hp
  go_enter Try.func123, Try.ntmps123
  go_wp2
  go_loopw [8] (fun i wr => ∃ k : Nat, k ≤ l.length ∧ i = .int .i64 k ∧ Hid ((l.take k).any p = false) ∧ Below w.heap.size w wr) (fun i _ => l.length - (intOf i).toNat)
  case atStart => exact ⟨0, Nat.zero_le _, rfl, by simp [Hid], Below.refl _ _⟩
  case round =>
    obtain ⟨k, hk, rfl, hno, hbl⟩ := hrel
    have hsz := hbl.size
    by_cases hlt : k < l.length
    · obtain ⟨b, o, x, SA, sc, MA, mc, rfl, hb, hx, h0, h1, h2, h3, as_, -, am_, -, -, -⟩ := (H.out.below (hbl.mono hB)).rE_ hlt
      have hk0 : (0 : Int) ≤ (k : Int) := by omega
      have hk1 : (k : Int) < (l.length : Int) := by omega
      have hcall := HP.out wr x SA MA sc mc (List.mem_of_getElem? hx) as_ am_ hbl
      have HX := Lib.hid hx; clear hx as_ am_
      cases hq : p x with
      | true =>
        rw [hq] at hcall
        have HC := Lib.hid hcall; clear hcall
        have HQ := Lib.hid hq; clear hq
        go_wp2_with (go_at_fn g; refine HC.out.mono ?_; rintro e w' ⟨rfl, hb'⟩)
        go_ret
        exact ⟨by rw [idxI_hit p l k x HX.out HQ.out hno.out]; rfl, hbl.trans (hb'.mono hsz)⟩
      | false =>
        rw [hq] at hcall
        have HC := Lib.hid hcall; clear hcall
        have HQ := Lib.hid hq; clear hq
        go_wp2_with (go_at_fn g; refine HC.out.mono ?_; rintro e w' ⟨rfl, hb'⟩)
        go_roundw
        case rel => exact ⟨k + 1, by omega, by go_num, by unfold Hid; rw [any_snoc _ _ _ _ HX.out, hno.out, HQ.out]; rfl, hbl.trans (hb'.mono hsz)⟩
        case measure => simp [intOf]; omega
    · go_wp2
      go_ret
      exact ⟨by have h1 := hno.out; rw [List.take_of_length_le (by omega)] at h1; unfold idxI; rw [h1]; rfl, hbl⟩

theorem containsFuncRE_any (A : Option Addr) (c B g : Nat) (lb : Array Value) (p : RE → Bool) (l : List RE) (w : World) (h : At w B A l) (hB : B ≤ w.heap.size) (hl : l.length ≤ 9223372036854775807)
    (eg : ∀ args w, (callFunc g args).run Try.prog w = .ok (.enter g args) w) (hp : PredX Try.prog g lb p l B w) :
    Calls Try.prog 91 #[.slice A l.length c, .func (.func g) #[] lb] w fun e w' => e = .returned (.bool (l.any p)) ∧ Below w.heap.size w w' := by
  have HC := Lib.hid (indexFuncRE_any A c B g lb p l w h hB hl eg hp)
  clear h hp eg
  cases hq : l.any p with
  | true =>
    have hi : idxI p l = (l.findIdx p : Int) := by unfold idxI; rw [if_pos hq]
    rw [hi] at HC
    go_enter Try.func91, Try.ntmps91
    go_wp2_with (go_at_call 123; refine HC.out.mono ?_; rintro e w' ⟨rfl, hb'⟩)
    go_ret
    exact ⟨ret_bool (by simp), hb'⟩
  | false =>
    have hi : idxI p l = -1 := by unfold idxI; rw [hq]; rfl
    rw [hi] at HC
    go_enter Try.func91, Try.ntmps91
    go_wp2_with (go_at_call 123; refine HC.out.mono ?_; rintro e w' ⟨rfl, hb'⟩)
    go_ret
    exact ⟨ret_bool (by simp), hb'⟩


theorem re_one {w : World} {B : Nat} : ∀ cs (x : RE), Enc.rd w B cs x → ∀ u ∈ cs, u.oneCell' = true := by
  rintro cs x ⟨c6, c7, rfl, -, -, ⟨A6, d6, e6, -⟩, ⟨A7, d7, e7, -⟩⟩ u hu
  injection e6 with e6; injection e7 with e7; subst e6 e7
  simp at hu
  rcases hu with rfl | rfl | rfl | rfl <;> rfl
/-- an exit whose cells are known -/
structure ExA where
  x : RE
  SA : Option Addr
  sc : Nat
  MA : Option Addr
  mc : Nat
def ExA.cs (e : ExA) : List Value := [.int .i64 e.x.at_, .int .i64 e.x.steps, .slice e.SA e.x.sets.length e.sc, .slice e.MA e.x.makes.length e.mc]
def ExA.rd (e : ExA) (w : World) (B : Nat) : Prop := Enc.rd w B e.cs e.x
theorem ExA.at_ {e : ExA} {w : World} {B : Nat} (h : e.rd w B) : At w B e.SA e.x.sets ∧ At w B e.MA e.x.makes ∧ I64 e.x.at_ ∧ I64 e.x.steps ∧ e.x.sets.length ≤ 9223372036854775807 ∧ e.x.makes.length ≤ 9223372036854775807 := by
  obtain ⟨c6, c7, h0, h1, h2, ⟨A6, d6, e6, l6, m6, -, t6⟩, ⟨A7, d7, e7, l7, m7, -, t7⟩⟩ := h
  injection e6 with e6; injection e7 with e7; subst e6 e7
  simp [ExA.cs] at h0
  obtain ⟨⟨rfl, rfl⟩, ⟨rfl, rfl⟩⟩ := h0
  unfold maxLen at m6 m7
  exact ⟨t6, t7, h1, h2, by omega, by omega⟩
theorem ExA.below {e : ExA} {w w' : World} {B : Nat} (h : e.rd w B) (hb : Below B w w') : e.rd w' B := Enc.below h hb
def ExA.raw (e : ExA) : Raw 4 := ⟨e.cs, rfl, by intro u hu; simp [ExA.cs] at hu; rcases hu with rfl | rfl | rfl | rfl <;> rfl⟩

theorem egLargeX : ∀ args w, (callFunc 92 args).run Try.prog w = .ok (.enter 92 args) w := fun _ _ => by kernel_rfl
theorem egCheckX : ∀ args w, (callFunc 96 args).run Try.prog w = .ok (.enter 96 args) w := fun _ _ => by kernel_rfl
theorem predXLarge (l : List RE) (B : Nat) (w : World) (hB : B ≤ w.heap.size) (hl : ∀ x ∈ l, x.makes.length ≤ 9223372036854775807) : PredX Try.prog 92 #[] Ord.large l B w := by
  rintro W x SA MA sc mc hx _ hm hb
  exact olarge_any B sc mc SA MA x W hm (by have := hb.size; omega) (hl x hx)
set_option maxRecDepth 100000 in
theorem predXFormed (G B : Nat) (slots : Int) (v0 v1 v2 v4 v5 v6 v7 v8 v9 v10 v11 v12 v13 : Value) (l : List RE) (w : World) (hG : Blk w G 104 #[v0, v1, v2, .int .i64 slots, v4, v5, v6, v7, v8, v9, v10, v11, v12, v13]) (hB : B ≤ w.heap.size)
    (hl : ∀ x ∈ l, (Ord.places x).length * 16 ≤ 140737488355328) : PredX Try.prog 96 #[.pointer (some ⟨G, 0, none⟩)] (fun x => !Ord.formed slots x) l B w := by
  rintro W x SA MA sc mc hx hs hm hb
  change Calls Try.prog 96 #[.agg #[.int .i64 x.at_, .int .i64 x.steps, .slice SA x.sets.length sc, .slice MA x.makes.length mc], .pointer (some ⟨G, 0, none⟩)] W _
  have hsz := hb.size
  have c3 := (hG.fresh hb).cell 3 (v := .int .i64 slots) rfl
  have ltG := (hG.fresh hb).lt
  have hNb := hl x hx
  have H := Lib.hid (And.intro hs (And.intro hm hNb)); clear hs hm hG hb hx hNb
  show Calls _ _ _ _ fun e W' => e = .returned (.bool (!Ord.formed slots x)) ∧ _
  obtain ⟨Q, hQ⟩ : ∃ Q, Ord.formed slots x = Q := ⟨_, rfl⟩
  rw [hQ]
  have HQ := Lib.hid hQ; clear hQ
  have hb0 : Below W.heap.size W (W.alloc (.cells #[.int .i64 x.at_, .int .i64 x.steps, .slice SA x.sets.length sc, .slice MA x.makes.length mc] 102)) := (Below.refl _ _).alloc (Nat.le_refl _) _
  go_enter Try.func96, Try.ntmps96
  go_wp2_with fail
  refine (formed_any B sc mc _ SA MA x slots _ (H.out.1.below (hb0.mono (by omega))) (H.out.2.1.below (hb0.mono (by omega))) (by simp; omega) rfl H.out.2.2).mono ?_
  rintro e w1 ⟨rfl, hb1⟩
  rw [HQ.out]
  go_wp2_with fail
  go_ret
  exact ⟨rfl, hb0.trans (hb1.mono (by simp))⟩

end Go.Proofs.Ytljdnadejmkaeaa

/- order.Check: what it is made of: lemmas. -/
namespace Go.Proofs.Ytljdnadejmkaeaa
open Go.RowKit

theorem infoRExit : (Try.prog.info? 102).map (fun i => (i.zero, i.size, i.bytes)) = some (some (.agg #[.int .i64 0, .int .i64 0, .slice none 0 0, .slice none 0 0]), 4, 64) := by kernel_rfl
theorem infoBoolA : (Try.prog.info? 4).map (fun i => (i.zero, i.size, i.bytes)) = some (some (.bool false), 1, 1) := by kernel_rfl
theorem own_litA {α : Type} [Flat α] (w : World) (base g n : Nat) (e : TypeId) (cs : Array Value) (l : List α) (hg : g = w.heap.size) (hn : l.length = n) (hb : base ≤ w.heap.size) (hcs : cs.toList = flat l) (hm : n ≤ maxLen) : Own (w.alloc (.cells cs e)) base e (some ⟨g, 0, none⟩) n l := by
  subst hg hn
  have hs : cs.size = l.length * Flat.sz α := by rw [← Array.length_toList, hcs, flat_length]
  exact ⟨flat_length _, .inr ⟨w.heap.size, l.length, cs, rfl, hb, heap_alloc_new w _, Nat.le_refl _, hm, hs, by rw [hcs, List.take_of_length_le (by rw [flat_length]; exact Nat.le_refl _)]⟩⟩
theorem madeBoolA (n : Nat) : (madeCells #[.bool false] n).toList = flat (List.replicate n false) := by
  apply List.ext_getElem?
  intro i
  have e : flat (List.replicate n false) = List.replicate n (Value.bool false) := by
    induction n with
    | zero => rfl
    | succ n ih => rw [List.replicate_succ, flat_cons, ih, List.replicate_succ]; rfl
  rw [e]
  simp only [madeCells, Array.toList_map, Array.toList_range, List.getElem?_map, List.getElem?_replicate]
  by_cases h : i < n
  · simp [h, Nat.mod_one]
  · simp [h]
theorem own_madeA (w : World) (base : Nat) (e : TypeId) (n : Nat) (hb : base ≤ w.heap.size) (hn : n ≤ maxLen) : Own (w.alloc (.cells (madeCells #[.bool false] n) e)) base e (some ⟨w.heap.size, 0, none⟩) n (List.replicate n false) := by
  refine ⟨flat_length _, .inr ⟨w.heap.size, n, madeCells #[.bool false] n, by rw [List.length_replicate], hb, heap_alloc_new w _, by simp, hn, by simp [size_madeCells, Flat.sz], ?_⟩⟩
  rw [← madeBoolA, List.take_of_length_le (by simp [size_madeCells, Flat.sz])]

/-- code whose cells are known -/
def CdAt (w : World) (B : Nat) (c : RC) (OA EA TS TM BS BM : Option Addr) (tsc tmc bsc bmc : Nat) : Prop :=
  At w B OA c.orders ∧ At w B EA c.exits ∧ (⟨c.turn, TS, tsc, TM, tmc⟩ : ExA).rd w B ∧ (⟨c.back, BS, bsc, BM, bmc⟩ : ExA).rd w B
theorem CdAt.below {w w' : World} {B : Nat} {c : RC} {OA EA TS TM BS BM : Option Addr} {tsc tmc bsc bmc : Nat} (h : CdAt w B c OA EA TS TM BS BM tsc tmc bsc bmc) (hb : Below B w w') : CdAt w' B c OA EA TS TM BS BM tsc tmc bsc bmc :=
  ⟨h.1.below hb, h.2.1.below hb, ExA.below h.2.2.1 hb, ExA.below h.2.2.2 hb⟩

/-- all exits, behind one another -/
theorem allExits_at {w w' : World} {B B' : Nat} {c : RC} {OA EA TS TM BS BM : Option Addr} {tsc tmc bsc bmc : Nat} (h : CdAt w B c OA EA TS TM BS BM tsc tmc bsc bmc) {rs : List (Raw 4)} (hrl : rs.length = c.exits.length)
    (hr : ∀ (i : Nat) (r : Raw 4) (x : RE), rs[i]? = some r → c.exits[i]? = some x → Enc.rd w B r.cs x) (hb : Below B w w') (hB : B ≤ B') {XA : Option Addr}
    (hx : At w' B' XA ([(⟨c.turn, TS, tsc, TM, tmc⟩ : ExA).raw, (⟨c.back, BS, bsc, BM, bmc⟩ : ExA).raw] ++ rs)) : At w' B' XA (Ord.allExits c) := by
  refine at_unraw (α := RE) rfl hx (by simp [Ord.allExits, hrl]) (fun i r x hri hxi => ?_)
  match i with
  | 0 => simp [Ord.allExits] at hri hxi; subst hri hxi; exact Enc.more (Enc.below h.2.2.1 hb) hB
  | 1 => simp [Ord.allExits] at hri hxi; subst hri hxi; exact Enc.more (Enc.below h.2.2.2 hb) hB
  | i + 2 =>
    simp [Ord.allExits] at hri hxi
    exact Enc.more (Enc.below (hr i r x hri hxi) hb) hB
theorem makes_short {w : World} {B : Nat} {A : Option Addr} {l : List RE} (h : At w B A l) : ∀ x ∈ l, x.makes.length ≤ 9223372036854775807 := fun x hx => by
  obtain ⟨i, hi⟩ := List.mem_iff_getElem?.1 hx
  obtain ⟨b, o, ey, SA, sc, MA, mc, -, -, hey, -, -, -, -, -, -, -, hm, -⟩ := h.rE_ (List.getElem?_eq_some_iff.1 hi).1
  obtain rfl : ey = x := Option.some.inj (hey.symm.trans hi)
  unfold maxLen at hm; omega

namespace Ord
theorem large_no {x : RE} (h : large x = false) : (places x).length * 16 ≤ 140737488355328 ∧ x.sets.length ≤ 60 ∧ x.makes.length ≤ 300 ∧ ∀ m ∈ x.makes, m.vals.length ≤ 100 := by
  unfold large at h
  simp only [Bool.or_eq_false_iff, decide_eq_false_iff_not] at h
  obtain ⟨⟨h1, h2⟩, h3⟩ := h
  have hw : ∀ m ∈ x.makes, m.vals.length ≤ 100 := fun m hm => by
    have := List.any_eq_false.1 h3 m hm
    simp [wide] at this; omega
  refine ⟨?_, by omega, by omega, hw⟩
  unfold places
  rw [List.length_append, List.length_map]
  have := fm_le (fun m : RM => m.cell :: m.vals) x.makes 101 (fun m hm => by have := hw m hm; simp; omega)
  have h4 : x.makes.length * 101 ≤ 300 * 101 := Nat.mul_le_mul_right _ (by omega)
  omega
theorem large_all {c : RC} (h : tooLarge c = false) : ∀ x ∈ allExits c, large x = false := by
  unfold tooLarge at h
  simp only [Bool.or_eq_false_iff] at h
  intro x hx
  have := List.any_eq_false.1 h.2 x hx
  simpa using this
theorem stK_succ {c : RC} {k : Nat} {x : RO} (h : c.orders[k]? = some x) : stK c (k + 1) = after (stK c k) x := by
  unfold stK
  rw [List.take_add_one, h, Option.toList_some, List.foldl_append]; rfl
theorem after_len (st : St) (x : RO) : (after st x).slots.length = st.slots.length ∧ (after st x).regs.length = st.regs.length := by
  unfold after
  refine ⟨?_, ?_⟩
  · simp only; split
    · rw [List.length_set]
    · rfl
  · simp only; split
    · rw [List.length_set]
    · rfl
theorem fold_len (l : List RO) (st : St) : (l.foldl after st).slots.length = st.slots.length := by
  induction l generalizing st with
  | nil => rfl
  | cons x l ih => rw [List.foldl_cons, ih, (after_len st x).1]
theorem stK_slots (c : RC) (k : Nat) : (stK c k).slots.length = c.slots.toNat := by unfold stK; rw [fold_len]; simp [start]
theorem errK_succ {c : RC} {k : Nat} {x : RO} (h : c.orders[k]? = some x) (h0 : errK c k = 0) : errK c (k + 1) = orderErr (stK c k) x c.slots c.exits := by
  rw [errK, if_neg (by rw [h0]; decide), h]
theorem errK_stays {c : RC} {k n : Nat} (h : errK c k ≠ 0) (hn : k ≤ n) : errK c n = errK c k := by
  obtain ⟨d, rfl⟩ : ∃ d, n = k + d := ⟨n - k, by omega⟩
  clear hn
  induction d with
  | zero => rfl
  | succ d ih => rw [show k + (d + 1) = (k + d) + 1 by omega, errK, if_pos (by rw [ih]; exact h), ih]
theorem err_of_order {c : RC} {k : Nat} (hl : tooLarge c = false) (hb : badNums c = false) (h : errK c k ≠ 0) (hk : k ≤ c.orders.length) : err c = errK c k := by
  unfold err
  rw [hl, hb, errK_stays h hk, if_neg (by decide), if_neg (by decide), if_pos h]
theorem turnK_zero (c : RC) : turnK c 0 = turn0 c := by unfold turnK; rw [if_neg (by omega)]
theorem turnK_at {c : RC} {k : Nat} (h0 : 0 < c.loop) (hk : (k : Int) = c.loop) : turnK c (k + 1) = all_ (stK c k) c.turn := by
  unfold turnK; rw [if_pos (by omega), show c.loop.toNat = k by omega]
theorem turnK_not {c : RC} {k : Nat} (h : ¬ (0 < c.loop ∧ (k : Int) = c.loop)) : turnK c (k + 1) = turnK c k := by
  unfold turnK
  by_cases h1 : 0 < c.loop ∧ c.loop < (k : Int)
  · rw [if_pos h1, if_pos (by omega)]
  · rw [if_neg h1, if_neg (by omega)]
end Ord

end Go.Proofs.Ytljdnadejmkaeaa

/- order.Check. -/
namespace Go.Proofs.Ytljdnadejmkaeaa
open Go.RowKit
attribute [local go_sem ↓] Go.wp_at_zero Go.wp_at_succ

theorem containsFuncRE_n (A : Option Addr) (c B g n : Nat) (lb : Array Value) (p : RE → Bool) (l : List RE) (w : World) (hn : l.length = n) (h : At w B A l) (hB : B ≤ w.heap.size) (hl : n ≤ 9223372036854775807)
    (eg : ∀ args w, (callFunc g args).run Try.prog w = .ok (.enter g args) w) (hp : PredX Try.prog g lb p l B w) :
    Calls Try.prog 91 #[.slice A n c, .func (.func g) #[] lb] w fun e w' => e = .returned (.bool (l.any p)) ∧ Below w.heap.size w w' := by
  subst hn; exact containsFuncRE_any A c B g lb p l w h hB hl eg hp

theorem order_n (base G B ec : Nat) (sl : Int) (EA : Option Addr) (st : Ord.St) (x : RO) (exits : List RE) (v0 v1 v2 v4 v6 v7 v8 v9 v10 v11 v12 v13 : Value) (w : World) (h : Ws w base G st) (hbG : base ≤ G) (hE : At w B EA exits) (hB : B ≤ base) (hsl : (st.slots.length : Int) = sl)
    (hN : ∀ y ∈ exits, (Ord.places y).length * 16 ≤ 140737488355328) (hxi : I64 x.a ∧ I64 x.b ∧ I64 x.c) (hki : I64 x.k.1 ∧ I64 x.k.2) :
    Calls Try.prog 95 #[.pointer (some ⟨G, 0, none⟩), .agg #[.int .i64 x.op, .int .i64 x.a, .int .i64 x.b, .int .i64 x.c, .int .i64 x.n, .int .i64 x.exit, .int .i64 x.k.1, .int .i64 x.k.2], .agg #[v0, v1, v2, .int .i64 sl, v4, .slice EA exits.length ec, v6, v7, v8, v9, v10, v11, v12, v13]] w (OrdPost st x sl exits base G w) := by
  subst hsl; exact order_any base G B _ ec EA st x exits v0 v1 v2 v4 v6 v7 v8 v9 v10 v11 v12 v13 w h hbG hE hB rfl hN hxi hki

def ChkPost (c : RC) (w : World) (e : Ending) (w' : World) : Prop := e = .returned (.int .i64 (Ord.err c)) ∧ Below w.heap.size w w'

set_option maxHeartbeats 6400000 in
set_option maxRecDepth 100000 in
theorem ocheck_any (B oc ec tsc tmc bsc bmc : Nat) (OA EA TS TM BS BM : Option Addr) (c : RC) (w : World) (h : CdAt w B c OA EA TS TM BS BM tsc tmc bsc bmc) (hB : B ≤ w.heap.size) (hol : c.orders.length ≤ 9223372036854775807) (hel : (c.exits.length + 2) * 64 ≤ 140737488355328)
    (hoi : ∀ x ∈ c.orders, (I64 x.a ∧ I64 x.b ∧ I64 x.c) ∧ I64 x.k.1 ∧ I64 x.k.2) :
    Calls Try.prog 44 #[.agg #[.int .i64 c.fn, .int .i64 c.at_, .int .i64 c.loop, .int .i64 c.slots, .slice OA c.orders.length oc, .slice EA c.exits.length ec, .int .i64 c.turn.at_, .int .i64 c.turn.steps, .slice TS c.turn.sets.length tsc, .slice TM c.turn.makes.length tmc, .int .i64 c.back.at_, .int .i64 c.back.steps, .slice BS c.back.sets.length bsc, .slice BM c.back.makes.length bmc]] w (ChkPost c w) := by
  obtain ⟨P, hP⟩ : ∃ P, ChkPost c w = P := ⟨_, rfl⟩
  rw [hP]
  obtain ⟨i0, hi, hz0, hz1, hz2⟩ := info_parts infoRExit
  obtain ⟨rs, hrl, hrat, hrr⟩ := h.2.1.raws (n := 4) rfl re_one
  have HP := Lib.hid (And.intro hP.symm hoi); clear hP hoi
  have H := Lib.hid (And.intro h (And.intro hrl (And.intro hrat hrr))); clear h hrl hrat hrr
  obtain ⟨b1, hb1⟩ : ∃ b, Ord.tooLarge c = b := ⟨_, rfl⟩
  obtain ⟨b2, hb2⟩ : ∃ b, Ord.badNums c = b := ⟨_, rfl⟩
  have HB := Lib.hid (And.intro hb1 hb2)
  unfold Ord.tooLarge at hb1; unfold Ord.badNums at hb2
  have HB1 := Lib.hid hb1; have HB2 := Lib.hid hb2; clear hb1 hb2
  go_enter Try.func44, Try.ntmps44
  go_upto_region 2 with (at_builtin; go_must (refine wpList_app (α := Raw 4) (n := 2) (m := c.exits.length) (B := B) (l := [(⟨c.turn, TS, tsc, TM, tmc⟩ : ExA).raw, (⟨c.back, BS, bsc, BM, bmc⟩ : ExA).raw]) (r := rs) rfl (.tmp 13) (.tmp 15) _ rfl (w.heap.size + 1) 102 i0 _ 64 Try.underlying98 hi hz0 hz1 hz2 rfl (by decide) raw_one (by rfl) rfl (own_litA _ _ _ 2 _ _ _ (by simp) rfl (by simp) rfl (by simp [maxLen])) (by rfl) (((H.out.2.2.1.alloc hB _).alloc (by simp; try omega) _)) H.out.2.1 (by omega) (by simp only [maxLen]; omega) (by simp; try omega) ?_); intro XA xc w1 ho1 hgr1 hat1)
  have hC1 := ((Blk.new w 104 #[.int .i64 c.fn, .int .i64 c.at_, .int .i64 c.loop, .int .i64 c.slots, .slice OA c.orders.length oc, .slice EA c.exits.length ec, .int .i64 c.turn.at_, .int .i64 c.turn.steps, .slice TS c.turn.sets.length tsc, .slice TM c.turn.makes.length tmc, .int .i64 c.back.at_, .int .i64 c.back.steps, .slice BS c.back.sets.length bsc, .slice BM c.back.makes.length bmc]).alloc (.cells #[.int .i64 c.turn.at_, .int .i64 c.turn.steps, .slice TS c.turn.sets.length tsc, .slice TM c.turn.makes.length tmc, .int .i64 c.back.at_, .int .i64 c.back.steps, .slice BS c.back.sets.length bsc, .slice BM c.back.makes.length bmc] 102)).grown hgr1 (by simp [rowOf])
  have hbl1 : Below w.heap.size w w1 := (((Below.refl _ _).alloc (Nat.le_refl _) _).alloc (by simp) _).grown hgr1 (by simp; omega) (fun g hg => by simp [rowOf] at hg; omega)
  have hs1 : w.heap.size + 2 ≤ w1.heap.size := by have := hgr1.size; simpa using this
  have hX1 := allExits_at H.out.1 H.out.2.1 H.out.2.2.2 (hbl1.mono hB) (show B ≤ w1.heap.size by omega) (ho1.at_ (fun _ _ => trivial))
  have hCd1 := H.out.1.below (hbl1.mono hB)
  have hxl : (Ord.allExits c).length = 2 + c.exits.length := by simp [Ord.allExits]; omega
  obtain ⟨bl, hbl⟩ : ∃ b, (Ord.allExits c).any Ord.large = b := ⟨_, rfl⟩
  rw [hbl] at HB1
  have hms := makes_short hX1
  have H1 := Lib.hid (And.intro hC1 (And.intro hX1 (And.intro hCd1 (And.intro hxl (And.intro hms hbl))))); clear hC1 hX1 hCd1 hxl ho1 hgr1 hat1 hms hbl H
  have c3 := H1.out.1.cell 3 (v := .int .i64 c.slots) rfl
  have c4 := H1.out.1.cell 4 (v := .slice OA c.orders.length oc) rfl
  have c5 := H1.out.1.cell 5 (v := .slice EA c.exits.length ec) rfl
  have lt1 : w.heap.size < w1.heap.size := by omega
  go_cut [17] (fun ov W2 => ov = .bool b1 ∧ Below w1.heap.size w1 W2)
  case first =>
    cases d1 : (decide (1500 < (c.orders.length : Int))) with
    | false =>
      cases d2 : (decide (200 < (c.exits.length : Int))) with
      | false =>
        cases d3 : (decide (300 < c.slots)) with
        | false =>
          cases bl with
          | false =>
            go_wp2_with (go_at_call 91; refine (containsFuncRE_n XA xc w1.heap.size 92 (2 + c.exits.length) #[] Ord.large (Ord.allExits c) w1 H1.out.2.2.2.1 H1.out.2.1 (Nat.le_refl _) (by omega) egLargeX (predXLarge _ _ _ (Nat.le_refl _) H1.out.2.2.2.2.1)).mono ?_; rintro e w2 ⟨he, hb2⟩; rw [H1.out.2.2.2.2.2] at he; subst he)
            go_meet
            exact ⟨by rw [← HB1.out, d1, d2, d3] <;> rfl, by first | exact hb2 | exact Below.refl _ _⟩
          | true =>
            go_wp2_with (go_at_call 91; refine (containsFuncRE_n XA xc w1.heap.size 92 (2 + c.exits.length) #[] Ord.large (Ord.allExits c) w1 H1.out.2.2.2.1 H1.out.2.1 (Nat.le_refl _) (by omega) egLargeX (predXLarge _ _ _ (Nat.le_refl _) H1.out.2.2.2.2.1)).mono ?_; rintro e w2 ⟨he, hb2⟩; rw [H1.out.2.2.2.2.2] at he; subst he)
            go_meet
            exact ⟨by rw [← HB1.out, d1, d2, d3] <;> rfl, by first | exact hb2 | exact Below.refl _ _⟩
        | true =>
          go_wp2_with (go_at_call 91; refine (containsFuncRE_n XA xc w1.heap.size 92 (2 + c.exits.length) #[] Ord.large (Ord.allExits c) w1 H1.out.2.2.2.1 H1.out.2.1 (Nat.le_refl _) (by omega) egLargeX (predXLarge _ _ _ (Nat.le_refl _) H1.out.2.2.2.2.1)).mono ?_; rintro e w2 ⟨he, hb2⟩; rw [H1.out.2.2.2.2.2] at he; subst he)
          go_meet
          exact ⟨by rw [← HB1.out, d1, d2, d3] <;> rfl, by first | exact hb2 | exact Below.refl _ _⟩
      | true =>
        go_wp2_with (go_at_call 91; refine (containsFuncRE_n XA xc w1.heap.size 92 (2 + c.exits.length) #[] Ord.large (Ord.allExits c) w1 H1.out.2.2.2.1 H1.out.2.1 (Nat.le_refl _) (by omega) egLargeX (predXLarge _ _ _ (Nat.le_refl _) H1.out.2.2.2.2.1)).mono ?_; rintro e w2 ⟨he, hb2⟩; rw [H1.out.2.2.2.2.2] at he; subst he)
        go_meet
        exact ⟨by rw [← HB1.out, d1, d2] <;> rfl, by first | exact hb2 | exact Below.refl _ _⟩
    | true =>
      go_wp2_with (go_at_call 91; refine (containsFuncRE_n XA xc w1.heap.size 92 (2 + c.exits.length) #[] Ord.large (Ord.allExits c) w1 H1.out.2.2.2.1 H1.out.2.1 (Nat.le_refl _) (by omega) egLargeX (predXLarge _ _ _ (Nat.le_refl _) H1.out.2.2.2.2.1)).mono ?_; rintro e w2 ⟨he, hb2⟩; rw [H1.out.2.2.2.2.2] at he; subst he)
      go_meet
      exact ⟨by rw [← HB1.out, d1] <;> rfl, by first | exact hb2 | exact Below.refl _ _⟩
  case rest =>
    obtain ⟨w2, rfl⟩ : ∃ v : World, v = wc := ⟨_, rfl⟩
    obtain ⟨rfl, hbc⟩ := hcut
    have hsc := hbc.size
    have hbl2 : Below w.heap.size w w2 := hbl1.trans (hbc.mono (by omega))
    have H2 := Lib.hid (And.intro (H1.out.1.fresh hbc) (And.intro ((H1.out.2.1.below hbc).more hsc) (And.intro (H1.out.2.2.1.below (hbc.mono (by omega))) H1.out.2.2.2.1))); clear H1 c3 c4 c5
    have lt2 : w.heap.size < w2.heap.size := by omega
    cases b1 with
    | true =>
      go_wp2_with fail
      rw [HP.out.1]
      exact ⟨by unfold Ord.err; rw [HB.out.1]; rfl, hbl2⟩
    | false =>
      have d0 := H2.out.1.cell 0 (v := .int .i64 c.fn) rfl
      have d1 := H2.out.1.cell 1 (v := .int .i64 c.at_) rfl
      have d2 := H2.out.1.cell 2 (v := .int .i64 c.loop) rfl
      have d3 := H2.out.1.cell 3 (v := .int .i64 c.slots) rfl
      have d4 := H2.out.1.cell 4 (v := .slice OA c.orders.length oc) rfl
      go_upto_region 4 with fail
      go_cut [37] (fun ov W2 => ov = .bool b2 ∧ W2 = w2)
      case first =>
        cases a1 : (decide (c.slots < 0)) with
        | false =>
          cases a2 : (decide (c.fn < 0)) with
          | false =>
            cases a3 : (decide (c.at_ < 0)) with
            | false =>
              cases a4 : (decide (c.loop < 0)) with
              | false =>
                cases a5 : (decide ((c.orders.length : Int) < c.loop)) with
                | false =>
                  go_wp2_with fail
                  go_meet
                  exact ⟨by rw [← HB2.out, a1, a2, a3, a4, a5] <;> rfl, rfl⟩
                | true =>
                  go_wp2_with fail
                  go_meet
                  exact ⟨by rw [← HB2.out, a1, a2, a3, a4, a5] <;> rfl, rfl⟩
              | true =>
                go_wp2_with fail
                go_meet
                exact ⟨by rw [← HB2.out, a1, a2, a3, a4] <;> rfl, rfl⟩
            | true =>
              go_wp2_with fail
              go_meet
              exact ⟨by rw [← HB2.out, a1, a2, a3] <;> rfl, rfl⟩
          | true =>
            go_wp2_with fail
            go_meet
            exact ⟨by rw [← HB2.out, a1, a2] <;> rfl, rfl⟩
        | true =>
          go_wp2_with fail
          go_meet
          exact ⟨by rw [← HB2.out, a1] <;> rfl, rfl⟩
      case rest =>
        obtain ⟨rfl, hwc⟩ := hcut
        have hwc2 := hwc.symm
        subst hwc2
        clear hwc
        cases b2 with
        | true =>
          go_wp2_with fail
          rw [HP.out.1]
          exact ⟨by unfold Ord.err; rw [HB.out.1, HB.out.2]; rfl, hbl2⟩
        | false =>
          have hB1 := HB1.out
          simp only [Bool.or_eq_false_iff, decide_eq_false_iff_not] at hB1
          obtain ⟨⟨⟨l1, l2⟩, l3⟩, -⟩ := hB1
          have hB2 := HB2.out
          simp only [Bool.or_eq_false_iff, decide_eq_false_iff_not] at hB2
          obtain ⟨⟨⟨⟨m1, -⟩, -⟩, m4⟩, m5⟩ := hB2
          have hol2 : c.orders.length ≤ 1500 := by omega
          have hel2 : c.exits.length ≤ 200 := by omega
          obtain ⟨sn, hsn⟩ : ∃ sn : Nat, c.slots = (sn : Int) := ⟨c.slots.toNat, by omega⟩
          have hsn3 : sn ≤ 300 := by omega
          obtain ⟨lp, hlp⟩ : ∃ lp : Nat, c.loop = (lp : Int) := ⟨c.loop.toNat, by omega⟩
          have hlpn : lp ≤ c.orders.length := by omega
          clear l1 l2 l3 m1 m4 m5 HB1 HB2 d0 d1
          rw [hsn] at d3
          rw [hlp] at d2
          have hmk := Go.run_make_row' (P := Try.prog) 156 4 (.bool false) 1 Try.underlying156 infoBoolA rfl .i64 .i64 sn (by omega) (by omega)
          have d6 := H2.out.1.cell 6 (v := .int .i64 c.turn.at_) rfl
          have d7 := H2.out.1.cell 7 (v := .int .i64 c.turn.steps) rfl
          have d8 := H2.out.1.cell 8 (v := .slice TS c.turn.sets.length tsc) rfl
          have d9 := H2.out.1.cell 9 (v := .slice TM c.turn.makes.length tmc) rfl
          have hlg := Ord.large_all HB.out.1
          have HL := Lib.hid (And.intro hlg (And.intro hsn hlp)); clear hlg hsn hlp
          go_upto_region 7 with fail
          clear hmk
          have hst : Ord.start c = ⟨List.replicate 8 false, List.replicate sn false⟩ := by unfold Ord.start; rw [HL.out.2.1, Int.toNat_natCast]
          obtain ⟨t0, ht0⟩ : ∃ b, Ord.turn0 c = b := ⟨_, rfl⟩
          obtain ⟨bt, hbt⟩ : ∃ b, Ord.bare c.turn = b := ⟨_, rfl⟩
          have HT0 := Lib.hid (And.intro ht0 hbt)
          unfold Ord.turn0 at ht0
          rw [hbt, HL.out.2.2] at ht0
          have HT1 := Lib.hid (And.intro hst ht0); clear hst ht0 hbt
          refine wp_world (fun V => Ws V w2.heap.size (w2.heap.size + 1) (Ord.stK c 0) ∧ Below w2.heap.size w2 V ∧ w2.heap.size + 2 ≤ V.heap.size) ⟨?_, ((Below.refl _ _).alloc (Nat.le_refl _) _).alloc (by simp) _, by simp⟩ ?_
          · rw [show Ord.stK c 0 = Ord.start c from rfl, HT1.out.1]
            refine ⟨some ⟨w2.heap.size, 0, none⟩, sn, ?_, (own_madeA w2 w2.heap.size _ sn (Nat.le_refl _) (by simp only [maxLen]; omega)).alloc _, rfl⟩
            rw [List.length_replicate]
            exact Blk.at_ _ _ _ (by simp)
          rintro V ⟨hWs, hbV, hsV⟩
          have HV := Lib.hid (And.intro hWs (H2.out.1.fresh hbV)); clear hWs
          have e2 := HV.out.2.cell 2 (v := .int .i64 (lp : Int)) (by rw [← HL.out.2.2]; rfl)
          have e4 := HV.out.2.cell 4 (v := .slice OA c.orders.length oc) rfl
          have e6 := HV.out.2.cell 6 (v := .int .i64 c.turn.at_) rfl
          have e7 := HV.out.2.cell 7 (v := .int .i64 c.turn.steps) rfl
          have e8 := HV.out.2.cell 8 (v := .slice TS c.turn.sets.length tsc) rfl
          have e9 := HV.out.2.cell 9 (v := .slice TM c.turn.makes.length tmc) rfl
          clear d2 d3 d4 d6 d7 d8 d9
          go_cut [5] (fun ov W2 => ov = .bool t0 ∧ Below V.heap.size V W2)
          case first =>
            cases a1 : ((lp : Int) == 0) with
            | false =>
              go_wp2_with (go_at_call 93; refine (bare_any tsc tmc TS TM c.turn V).mono ?_; rintro e w5 ⟨he, hb5⟩; rw [HT0.out.2] at he; subst he)
              go_meet
              exact ⟨by rw [← HT1.out.2, a1] <;> rfl, by first | exact hb5 | exact Below.refl _ _⟩
            | true =>
              cases bt with
              | false =>
                go_wp2_with (go_at_call 93; refine (bare_any tsc tmc TS TM c.turn V).mono ?_; rintro e w5 ⟨he, hb5⟩; rw [HT0.out.2] at he; subst he)
                go_meet
                exact ⟨by rw [← HT1.out.2, a1] <;> rfl, by first | exact hb5 | exact Below.refl _ _⟩
              | true =>
                go_wp2_with (go_at_call 93; refine (bare_any tsc tmc TS TM c.turn V).mono ?_; rintro e w5 ⟨he, hb5⟩; rw [HT0.out.2] at he; subst he)
                go_meet
                exact ⟨by rw [← HT1.out.2, a1] <;> rfl, by first | exact hb5 | exact Below.refl _ _⟩
          case rest =>
            obtain ⟨w4, rfl⟩ : ∃ v : World, v = wc := ⟨_, rfl⟩
            obtain ⟨rfl, hb4⟩ := hcut
            have hs4 := hb4.size
            have f4 := (HV.out.2.fresh hb4).cell 4 (v := .slice OA c.orders.length oc) rfl
            have HW4 := Lib.hid (HV.out.1.fresh hb4)
            have hbw4 : Below w2.heap.size w2 w4 := hbV.trans (hb4.mono (by omega))
            have lt4 : w2.heap.size + 2 ≤ w4.heap.size := by omega
            clear e2 e4 e6 e7 e8 e9 HV hbV hsV hb4
            have ltw4 : w.heap.size < w4.heap.size := by omega
            go_wp2_with fail
            clear f4
            go_loopg [5, 80] (c.orders.length) (fun gk tv iv wr => ∃ (k : Nat) (tb : Bool), k ≤ c.orders.length ∧ gk = c.orders.length - k ∧ iv = .int .i64 k ∧ tv = .bool tb ∧ Hid (Ord.turnK c k = tb ∧ Ord.errK c k = 0 ∧ Ws wr w2.heap.size (w2.heap.size + 1) (Ord.stK c k)) ∧ Below w2.heap.size w2 wr ∧ w2.heap.size + 2 ≤ wr.heap.size)
            case atStart => exact ⟨0, t0, Nat.zero_le _, rfl, rfl, rfl, ⟨by rw [Ord.turnK_zero]; exact HT0.out.1, rfl, HW4.out⟩, hbw4, lt4⟩
            case round =>
              obtain ⟨k, tb, hk, rfl, rfl, rfl, hkeep, hbr, hsr⟩ := hrel
              have hbwr : Below w.heap.size w wr := hbl2.trans (hbr.mono (by omega))
              have hCr := Lib.hid (H2.out.1.fresh hbr)
              have hCdr := Lib.hid (H2.out.2.2.1.below (hbr.mono (by omega)))
              by_cases hlt : k < c.orders.length
              · obtain ⟨b, o, x, rfl, hb, hx, q0, q1, q2, q3, q4, q5, q6, q7, j0, j1, j2, j3, j4, j5, j6, j7⟩ := hCdr.out.1.rO_ hlt
                have hxi := HP.out.2 x (List.mem_of_getElem? hx)
                have hk0 : (0 : Int) ≤ (k : Int) := by omega
                have hk1 : (k : Int) < (c.orders.length : Int) := by omega
                have HX := Lib.hid (And.intro hx hxi); clear hx hxi j0 j1 j2 j3 j4 j5 j6 j7
                go_upto_region 11 with fail
                refine wp_world (fun Z => Ws Z w2.heap.size (w2.heap.size + 1) (Ord.stK c k) ∧ Blk Z wr.heap.size 146 #[.int .i64 x.op, .int .i64 x.a, .int .i64 x.b, .int .i64 x.c, .int .i64 x.n, .int .i64 x.exit, .int .i64 x.k.1, .int .i64 x.k.2] ∧ Below wr.heap.size wr Z ∧ wr.heap.size + 1 ≤ Z.heap.size) ⟨hkeep.out.2.2.alloc _, Blk.new _ _ _, (Below.refl _ _).alloc (Nat.le_refl _) _, by simp⟩ ?_
                rintro Z ⟨hWs, hXb, hbZ, hsZ⟩
                have hcz := hCr.out.fresh hbZ
                have s2 := hcz.cell 2 (v := .int .i64 (lp : Int)) (by rw [← HL.out.2.2]; rfl)
                have s6 := hcz.cell 6 (v := .int .i64 c.turn.at_) rfl
                have s7 := hcz.cell 7 (v := .int .i64 c.turn.steps) rfl
                have s8 := hcz.cell 8 (v := .slice TS c.turn.sets.length tsc) rfl
                have s9 := hcz.cell 9 (v := .slice TM c.turn.makes.length tmc) rfl
                have HZ := Lib.hid (And.intro hWs (And.intro hXb (And.intro hcz (hCdr.out.below (hbZ.mono (by omega)))))); clear hWs hXb hcz
                have hbwZ : Below w2.heap.size w2 Z := hbr.trans (hbZ.mono (by omega))
                have ltZ : w.heap.size < Z.heap.size := by omega
                obtain ⟨hit, hhit⟩ : ∃ b, (decide (0 < (lp : Int)) && ((k : Int) == (lp : Int))) = b := ⟨_, rfl⟩
                have HH := Lib.hid hhit; clear hhit
                obtain ⟨tn, htn⟩ : ∃ b, Ord.turnK c (k + 1) = b := ⟨_, rfl⟩
                have HTN := Lib.hid htn; clear htn
                go_cut [93] (fun ov W2 => ov = .bool hit ∧ W2 = Z)
                case first =>
                  by_cases p1 : 0 < lp
                  · have p1' : decide ((0 : Int) < (lp : Int)) = true := by simpa using p1
                    have HP1 := Lib.hid p1'; clear p1'
                    cases a2 : ((k : Int) == (lp : Int)) with
                    | true =>
                      go_wp2_with fail
                      go_meet
                      exact ⟨by rw [← HH.out, HP1.out, a2]; rfl, rfl⟩
                    | false =>
                      go_wp2_with fail
                      go_meet
                      exact ⟨by rw [← HH.out, HP1.out, a2]; rfl, rfl⟩
                  · have p1' : decide ((0 : Int) < (lp : Int)) = false := by simpa using p1
                    have HP1 := Lib.hid p1'; clear p1'
                    go_wp2_with fail
                    go_meet
                    exact ⟨by rw [← HH.out, HP1.out]; rfl, rfl⟩
                case rest =>
                  obtain ⟨rfl, hwc⟩ := hcut
                  have hwc2 := hwc.symm
                  subst hwc2
                  clear hwc
                  go_upto_if 93 with fail
                  go_cut [5] (fun ov W2 => ov = .bool tn ∧ Below Z.heap.size Z W2)
                  case first =>
                    cases hit with
                    | false =>
                      have hno : tn = tb := by
                        rw [← HTN.out, Ord.turnK_not, hkeep.out.1]
                        rintro ⟨h1, h2⟩
                        have := HH.out
                        rw [HL.out.2.2] at h1 h2
                        rw [decide_eq_true h1, show ((k : Int) == (lp : Int)) = true by simpa using h2] at this
                        cases this
                      have HNO := Lib.hid hno; clear hno
                      go_wp2_with fail
                      go_meet
                      exact ⟨by rw [HNO.out], Below.refl _ _⟩
                    | true =>
                      have hh := HH.out
                      simp only [Bool.and_eq_true, decide_eq_true_eq, beq_iff_eq] at hh
                      have hyes : tn = Ord.all_ (Ord.stK c k) c.turn := by rw [← HTN.out]; exact Ord.turnK_at (by rw [HL.out.2.2]; exact hh.1) (by rw [HL.out.2.2]; exact hh.2)
                      have hpl := (Ord.large_no (HL.out.1 c.turn (by simp [Ord.allExits]))).1
                      have hrd := ExA.at_ HZ.out.2.2.2.2.2.1
                      have HNO := Lib.hid (And.intro hyes (And.intro hpl hrd)); clear hyes hpl hrd hh
                      go_wp2_with (go_at_call 94; refine (all_any w2.heap.size (w2.heap.size + 1) B tsc tmc _ TS TM (Ord.stK c k) c.turn Z HZ.out.1 HNO.out.2.2.1 HNO.out.2.2.2.1 (by omega) rfl HNO.out.2.1).mono ?_; rintro e w5 ⟨he, hb5⟩; rw [← HNO.out.1] at he; subst he)
                      go_meet
                      exact ⟨rfl, hb5⟩
                  case rest =>
                    obtain ⟨w5, rfl⟩ : ∃ v : World, v = wc := ⟨_, rfl⟩
                    obtain ⟨rfl, hb5⟩ := hcut
                    have hs5 := hb5.size
                    have H5 := Lib.hid (And.intro (HZ.out.1.fresh hb5) (And.intro (HZ.out.2.1.fresh hb5) (And.intro (HZ.out.2.2.1.fresh hb5) (HZ.out.2.2.2.below (hb5.mono (by omega)))))); clear HZ s2 s6 s7 s8 s9
                    have hbw5 : Below w2.heap.size w2 w5 := hbwZ.trans (hb5.mono (by omega))
                    have hpls : ∀ y ∈ c.exits, (Ord.places y).length * 16 ≤ 140737488355328 := fun y hy => (Ord.large_no (HL.out.1 y (by simp [Ord.allExits, hy]))).1
                    have HPL := Lib.hid hpls; clear hpls
                    go_wp2_with (first | (refine wpList_ld rfl 146 (.tmp 7) rfl wr.heap.size rfl H5.out.2.1 Try.underlying146 rfl (by kernel_rfl) ?_) | (refine wpList_ld rfl 104 (.tmp 1) rfl w.heap.size rfl H5.out.2.2.1 Try.underlying104 rfl (by kernel_rfl) ?_))
                    refine (order_n w2.heap.size (w2.heap.size + 1) B ec c.slots EA (Ord.stK c k) x c.exits _ _ _ _ _ _ _ _ _ _ _ _ w5 H5.out.1 (by omega) H5.out.2.2.2.2.1 (by omega) (by rw [Ord.stK_slots, HL.out.2.1]; simp) HPL.out HX.out.2.1 HX.out.2.2).mono ?_
                    rintro e w6 ⟨he, hw6, hb6⟩
                    have hes := Ord.errK_succ HX.out.1 hkeep.out.2.1
                    obtain ⟨er, her⟩ : ∃ er, Ord.orderErr (Ord.stK c k) x c.slots c.exits = er := ⟨_, rfl⟩
                    rw [her] at he hw6 hes
                    subst he
                    have hs6 := hb6.size
                    have hbw6 : Below w2.heap.size w2 w6 := hbw5.trans hb6
                    have H6 := Lib.hid (And.intro hw6 hes); clear hw6 hes her
                    by_cases h0 : er = 0
                    · subst h0
                      have hsk := Ord.stK_succ HX.out.1
                      have HSK := Lib.hid hsk; clear hsk
                      go_wp2_with fail
                      go_roundg (c.orders.length - (k + 1))
                      case measure => omega
                      case rel => exact ⟨k + 1, tn, by omega, rfl, by go_num, rfl, ⟨HTN.out, H6.out.2, by rw [HSK.out]; exact H6.out.1 (by trivial)⟩, hbw6, by omega⟩
                    · have hne : (er != 0) = true := by simp [h0]
                      have hfin : Ord.err c = er := by rw [Ord.err_of_order HB.out.1 HB.out.2 (k := k + 1) (by rw [H6.out.2]; exact h0) (by omega), H6.out.2]
                      have HE := Lib.hid (And.intro hfin h0); clear hfin h0
                      go_wp2_with fail
                      rw [HP.out.1]
                      exact ⟨by rw [HE.out.1]; rfl, hbl2.trans (hbw6.mono (by omega))⟩
              · have hkn : k = c.orders.length := by omega
                have hk1 := hkeep.out
                rw [hkn] at hk1
                have s2 := hCr.out.cell 2 (v := .int .i64 (lp : Int)) (by rw [← HL.out.2.2]; rfl)
                have s4 := hCr.out.cell 4 (v := .slice OA c.orders.length oc) rfl
                have s6 := hCr.out.cell 6 (v := .int .i64 c.turn.at_) rfl
                have s7 := hCr.out.cell 7 (v := .int .i64 c.turn.steps) rfl
                have s8 := hCr.out.cell 8 (v := .slice TS c.turn.sets.length tsc) rfl
                have s9 := hCr.out.cell 9 (v := .slice TM c.turn.makes.length tmc) rfl
                have HK := Lib.hid hk1; clear hk1 hkeep
                have ltr : w.heap.size < wr.heap.size := by omega
                obtain ⟨hit, hhit⟩ : ∃ b, (decide (0 < (lp : Int)) && ((lp : Int) == (c.orders.length : Int))) = b := ⟨_, rfl⟩
                have HH := Lib.hid hhit; clear hhit
                obtain ⟨tn, htn⟩ : ∃ b, Ord.turnEnd c = b := ⟨_, rfl⟩
                have HTN := Lib.hid htn; clear htn
                go_upto_region 17 with fail
                go_cut [116] (fun ov W2 => ov = .bool hit ∧ W2 = wr)
                case first =>
                  clear hkn
                  by_cases p1 : 0 < lp
                  · have p1' : decide ((0 : Int) < (lp : Int)) = true := by simpa using p1
                    have HP1 := Lib.hid p1'; clear p1'
                    cases a2 : ((lp : Int) == (c.orders.length : Int)) with
                    | true =>
                      go_wp2_with fail
                      go_meet
                      exact ⟨by rw [← HH.out, HP1.out, a2]; rfl, rfl⟩
                    | false =>
                      go_wp2_with fail
                      go_meet
                      exact ⟨by rw [← HH.out, HP1.out, a2]; rfl, rfl⟩
                  · have p1' : decide ((0 : Int) < (lp : Int)) = false := by simpa using p1
                    have HP1 := Lib.hid p1'; clear p1'
                    go_wp2_with fail
                    go_meet
                    exact ⟨by rw [← HH.out, HP1.out]; rfl, rfl⟩
                case rest =>
                  obtain ⟨rfl, hwc⟩ := hcut
                  have hwc2 := hwc.symm
                  subst hwc2
                  clear hwc hkn
                  go_upto_if 116 with fail
                  go_cut [5] (fun ov W2 => ov = .bool tn ∧ Below wr.heap.size wr W2)
                  case first =>
                    cases hit with
                    | false =>
                      have hno : tn = tb := by
                        rw [← HTN.out]
                        unfold Ord.turnEnd
                        rw [if_neg, HK.out.1]
                        rintro ⟨h1, h2⟩
                        have := HH.out
                        rw [HL.out.2.2] at h1 h2
                        rw [decide_eq_true h1, show ((lp : Int) == (c.orders.length : Int)) = true by simpa using h2] at this
                        cases this
                      have HNO := Lib.hid hno; clear hno
                      go_wp2_with fail
                      go_meet
                      exact ⟨by rw [HNO.out], Below.refl _ _⟩
                    | true =>
                      have hh := HH.out
                      simp only [Bool.and_eq_true, decide_eq_true_eq, beq_iff_eq] at hh
                      have hyes : tn = Ord.all_ (Ord.stK c c.orders.length) c.turn := by
                        rw [← HTN.out]; unfold Ord.turnEnd; rw [if_pos ⟨by rw [HL.out.2.2]; exact hh.1, by rw [HL.out.2.2]; exact hh.2⟩]
                      have hpl := (Ord.large_no (HL.out.1 c.turn (by simp [Ord.allExits]))).1
                      have hrd := ExA.at_ hCdr.out.2.2.1
                      have HNO := Lib.hid (And.intro hyes (And.intro hpl hrd)); clear hyes hpl hrd hh
                      go_wp2_with (go_at_call 94; refine (all_any w2.heap.size (w2.heap.size + 1) B tsc tmc _ TS TM (Ord.stK c c.orders.length) c.turn wr HK.out.2.2 HNO.out.2.2.1 HNO.out.2.2.2.1 (by omega) rfl HNO.out.2.1).mono ?_; rintro e w5 ⟨he, hb5⟩; rw [← HNO.out.1] at he; subst he)
                      go_meet
                      exact ⟨rfl, hb5⟩
                  case rest =>
                    obtain ⟨w5, rfl⟩ : ∃ v : World, v = wc := ⟨_, rfl⟩
                    obtain ⟨rfl, hb5⟩ := hcut
                    have hs5 := hb5.size
                    have hbw5 : Below w2.heap.size w2 w5 := hbr.trans (hb5.mono (by omega))
                    have hX5 := (H2.out.2.1.below hbw5).more (show w2.heap.size ≤ w5.heap.size by omega)
                    have hrdb := ExA.at_ (ExA.below hCdr.out.2.2.2 (hb5.mono (by omega)))
                    have hplb := (Ord.large_no (HL.out.1 c.back (by simp [Ord.allExits]))).1
                    obtain ⟨ba, hba⟩ : ∃ b, Ord.all_ (Ord.stK c c.orders.length) c.back = b := ⟨_, rfl⟩
                    obtain ⟨fx, hfx⟩ : ∃ b, ((Ord.allExits c).any fun x => !Ord.formed c.slots x) = b := ⟨_, rfl⟩
                    have hplx : ∀ y ∈ Ord.allExits c, (Ord.places y).length * 16 ≤ 140737488355328 := fun y hy => (Ord.large_no (HL.out.1 y hy)).1
                    have hfin : Ord.err c = if !tn then 3 else if !ba then 3 else if fx then 3 else 0 := by
                      unfold Ord.err
                      rw [HB.out.1, HB.out.2, HK.out.2.1, HTN.out, hba, hfx]; rfl
                    have hC5 := H2.out.1.fresh hbw5
                    have s10 := hC5.cell 10 (v := .int .i64 c.back.at_) rfl
                    have s11 := hC5.cell 11 (v := .int .i64 c.back.steps) rfl
                    have s12 := hC5.cell 12 (v := .slice BS c.back.sets.length bsc) rfl
                    have s13 := hC5.cell 13 (v := .slice BM c.back.makes.length bmc) rfl
                    have lt5 : w.heap.size < w5.heap.size := by omega
                    have H5 := Lib.hid (And.intro (HK.out.2.2.fresh hb5) (And.intro hX5 (And.intro hrdb (And.intro hplb (And.intro hba (And.intro hfx (And.intro hplx (And.intro hfin hC5)))))))); clear hX5 hrdb hplb hba hfx hplx hfin hC5 s2 s4 s6 s7 s8 s9 HK HTN HH
                    obtain ⟨bf, hbf⟩ : ∃ b, ((!tn || !ba) || fx) = b := ⟨_, rfl⟩
                    have HBF := Lib.hid hbf; clear hbf
                    have hbl5 : Below w.heap.size w w5 := hbl2.trans (hbw5.mono (by omega))
                    go_upto_region 19 with fail
                    go_cut [134] (fun ov W2 => ov = .bool bf ∧ Below w5.heap.size w5 W2)
                    case first =>
                      cases tn with
                      | false =>
                        go_wp2_with (first | (go_at_call 94; refine (all_any w2.heap.size (w2.heap.size + 1) B bsc bmc _ BS BM (Ord.stK c c.orders.length) c.back w5 H5.out.1 H5.out.2.2.1.1 H5.out.2.2.1.2.1 (by omega) rfl H5.out.2.2.2.1).mono ?_; rintro e w6 ⟨he6, hb6⟩; rw [H5.out.2.2.2.2.1] at he6; subst he6; have hs6 := hb6.size) | (go_at_call 91; refine (containsFuncRE_n XA xc w6.heap.size 96 (2 + c.exits.length) #[.pointer (some ⟨w.heap.size, 0, none⟩)] (fun x => !Ord.formed c.slots x) (Ord.allExits c) w6 H2.out.2.2.2 ((H5.out.2.1.below hb6).more hs6) (Nat.le_refl _) (by omega) egCheckX (predXFormed w.heap.size w6.heap.size c.slots _ _ _ _ _ _ _ _ _ _ _ _ _ _ w6 (H5.out.2.2.2.2.2.2.2.2.fresh hb6) (Nat.le_refl _) H5.out.2.2.2.2.2.2.1)).mono ?_; rintro e w7 ⟨he7, hb7⟩; rw [H5.out.2.2.2.2.2.1] at he7; subst he7))
                        go_meet
                        exact ⟨by rw [← HBF.out] <;> rfl, by first | exact hb6.trans (hb7.mono hs6) | exact hb6 | exact Below.refl _ _⟩
                      | true =>
                        cases ba with
                        | false =>
                          go_wp2_with (first | (go_at_call 94; refine (all_any w2.heap.size (w2.heap.size + 1) B bsc bmc _ BS BM (Ord.stK c c.orders.length) c.back w5 H5.out.1 H5.out.2.2.1.1 H5.out.2.2.1.2.1 (by omega) rfl H5.out.2.2.2.1).mono ?_; rintro e w6 ⟨he6, hb6⟩; rw [H5.out.2.2.2.2.1] at he6; subst he6; have hs6 := hb6.size) | (go_at_call 91; refine (containsFuncRE_n XA xc w6.heap.size 96 (2 + c.exits.length) #[.pointer (some ⟨w.heap.size, 0, none⟩)] (fun x => !Ord.formed c.slots x) (Ord.allExits c) w6 H2.out.2.2.2 ((H5.out.2.1.below hb6).more hs6) (Nat.le_refl _) (by omega) egCheckX (predXFormed w.heap.size w6.heap.size c.slots _ _ _ _ _ _ _ _ _ _ _ _ _ _ w6 (H5.out.2.2.2.2.2.2.2.2.fresh hb6) (Nat.le_refl _) H5.out.2.2.2.2.2.2.1)).mono ?_; rintro e w7 ⟨he7, hb7⟩; rw [H5.out.2.2.2.2.2.1] at he7; subst he7))
                          go_meet
                          exact ⟨by rw [← HBF.out] <;> rfl, by first | exact hb6.trans (hb7.mono hs6) | exact hb6 | exact Below.refl _ _⟩
                        | true =>
                          cases fx with
                          | false =>
                            go_wp2_with (first | (go_at_call 94; refine (all_any w2.heap.size (w2.heap.size + 1) B bsc bmc _ BS BM (Ord.stK c c.orders.length) c.back w5 H5.out.1 H5.out.2.2.1.1 H5.out.2.2.1.2.1 (by omega) rfl H5.out.2.2.2.1).mono ?_; rintro e w6 ⟨he6, hb6⟩; rw [H5.out.2.2.2.2.1] at he6; subst he6; have hs6 := hb6.size) | (go_at_call 91; refine (containsFuncRE_n XA xc w6.heap.size 96 (2 + c.exits.length) #[.pointer (some ⟨w.heap.size, 0, none⟩)] (fun x => !Ord.formed c.slots x) (Ord.allExits c) w6 H2.out.2.2.2 ((H5.out.2.1.below hb6).more hs6) (Nat.le_refl _) (by omega) egCheckX (predXFormed w.heap.size w6.heap.size c.slots _ _ _ _ _ _ _ _ _ _ _ _ _ _ w6 (H5.out.2.2.2.2.2.2.2.2.fresh hb6) (Nat.le_refl _) H5.out.2.2.2.2.2.2.1)).mono ?_; rintro e w7 ⟨he7, hb7⟩; rw [H5.out.2.2.2.2.2.1] at he7; subst he7))
                            go_meet
                            exact ⟨by rw [← HBF.out] <;> rfl, by first | exact hb6.trans (hb7.mono hs6) | exact hb6 | exact Below.refl _ _⟩
                          | true =>
                            go_wp2_with (first | (go_at_call 94; refine (all_any w2.heap.size (w2.heap.size + 1) B bsc bmc _ BS BM (Ord.stK c c.orders.length) c.back w5 H5.out.1 H5.out.2.2.1.1 H5.out.2.2.1.2.1 (by omega) rfl H5.out.2.2.2.1).mono ?_; rintro e w6 ⟨he6, hb6⟩; rw [H5.out.2.2.2.2.1] at he6; subst he6; have hs6 := hb6.size) | (go_at_call 91; refine (containsFuncRE_n XA xc w6.heap.size 96 (2 + c.exits.length) #[.pointer (some ⟨w.heap.size, 0, none⟩)] (fun x => !Ord.formed c.slots x) (Ord.allExits c) w6 H2.out.2.2.2 ((H5.out.2.1.below hb6).more hs6) (Nat.le_refl _) (by omega) egCheckX (predXFormed w.heap.size w6.heap.size c.slots _ _ _ _ _ _ _ _ _ _ _ _ _ _ w6 (H5.out.2.2.2.2.2.2.2.2.fresh hb6) (Nat.le_refl _) H5.out.2.2.2.2.2.2.1)).mono ?_; rintro e w7 ⟨he7, hb7⟩; rw [H5.out.2.2.2.2.2.1] at he7; subst he7))
                            go_meet
                            exact ⟨by rw [← HBF.out] <;> rfl, by first | exact hb6.trans (hb7.mono hs6) | exact hb6 | exact Below.refl _ _⟩
                    case rest =>
                      obtain ⟨rfl, hb8⟩ := hcut
                      have hE : Ord.err c = if bf then 3 else 0 := by
                        rw [H5.out.2.2.2.2.2.2.2.1, ← HBF.out]
                        cases tn <;> cases ba <;> cases fx <;> rfl
                      have HE := Lib.hid hE; clear hE
                      cases bf with
                      | true =>
                        go_wp2_with fail
                        rw [HP.out.1]
                        exact ⟨by rw [HE.out]; rfl, hbl5.trans (hb8.mono (by omega))⟩
                      | false =>
                        go_wp2_with fail
                        rw [HP.out.1]
                        exact ⟨by rw [HE.out]; rfl, hbl5.trans (hb8.mono (by omega))⟩

end Go.Proofs.Ytljdnadejmkaeaa

/- order's writer: places, exits. -/
namespace Go.Proofs.Ytljdnadejmkaeaa
open Go.RowKit

namespace Ord
theorem bys_nums (a b : List Int) : bys (numsB (a ++ b)) = bys (numsB a) ++ bys (numsB b) := by rw [numsB_append, bys_append]
theorem nums_bound {l : List Int} (h : ∀ x ∈ l, I64 x) : (bys (numsB l)).length ≤ l.length * 10 := by rw [bys_length]; exact numsB_len h
end Ord

set_option maxRecDepth 100000 in
theorem place_any (R base : Nat) (p q : Int) (out : List U8) (w : World) (hp : I64 p) (hq : I64 q) (h : Bw w base R out) (hlen : out.length + 20 ≤ 1000000000000) :
    Calls Try.prog 122 #[.pointer (some ⟨R, 0, none⟩), .agg #[.int .i64 p, .int .i64 q]] w fun en w' => en = .returned (.tuple #[]) ∧ Bw w' base R (out ++ Ord.bys (Ord.numsB [p, q])) ∧ Below base w w' ∧ BKeep R w w' := by
  have hl := h.lt
  have H := Lib.hid (And.intro h (And.intro hp hq)); clear h hp hq
  go_enter Try.func122, Try.ntmps122
  go_wp2_with fail
  refine (nums_new R base (w.heap.size + 1) 2 _ [p, q] out (w.alloc (.cells #[.int .i64 p, .int .i64 q] 90)) (by simp) rfl rfl (by intro x hx; simp at hx; rcases hx with rfl | rfl; exact H.out.2.1; exact H.out.2.2) (H.out.1.alloc _) (by omega)).mono ?_
  rintro en w1 ⟨rfl, hW1, hb1, hk1⟩
  have H1 := Lib.hid (And.intro hW1 (And.intro (((Below.refl base w).alloc (by omega) (.cells #[.int .i64 p, .int .i64 q] 90)).trans hb1) (((BKeep.refl R w).alloc (.cells #[.int .i64 p, .int .i64 q] 90)).trans hk1))); clear hW1 hb1 hk1
  go_wp2_with fail
  go_end0
  exact ⟨rfl, H1.out⟩

set_option maxHeartbeats 6400000 in
set_option maxRecDepth 100000 in
theorem wexit_any (R base B sc mc : Nat) (SA MA : Option Addr) (x : RE) (out : List U8) (w : World) (hs : At w B SA x.sets) (hm : At w B MA x.makes) (hB : B ≤ base) (h : Bw w base R out) (hlen : out.length ≤ 900000000000) (hi : I64 x.at_ ∧ I64 x.steps) (hlg : Ord.large x = false) :
    Calls Try.prog 90 #[.pointer (some ⟨R, 0, none⟩), .agg #[.int .i64 x.at_, .int .i64 x.steps, .slice SA x.sets.length sc, .slice MA x.makes.length mc]] w fun en w' => en = .returned (.tuple #[]) ∧ Bw w' base R (out ++ Ord.bys (Ord.numsB (Ord.exitNums x))) ∧ Below base w w' ∧ BKeep R w w' := by
  obtain ⟨-, hsl, hml, hvl⟩ := Ord.large_no hlg
  have hl := h.lt
  have HH := Lib.hid (And.intro hs (And.intro hm (And.intro h (And.intro hvl hi)))); clear hs hm h hlg hvl hi
  go_enter Try.func90, Try.ntmps90
  go_wp2_with fail
  refine (nums_new R base (w.heap.size + 1) 3 _ [x.at_, x.steps, (x.sets.length : Int)] out (w.alloc (.cells #[.int .i64 x.at_, .int .i64 x.steps, .slice SA x.sets.length sc, .slice MA x.makes.length mc] 102)) (by simp) rfl rfl (by intro z hz; simp at hz; rcases hz with rfl | rfl | rfl; exact HH.out.2.2.2.2.1; exact HH.out.2.2.2.2.2; unfold I64; omega) (HH.out.2.2.1.alloc _) (by omega)).mono ?_
  rintro en w1 ⟨rfl, hW1, hb1, hk1⟩
  have hC1 := hk1 w.heap.size _ _ (by omega) (by decide) (Blk.new w 102 #[.int .i64 x.at_, .int .i64 x.steps, .slice SA x.sets.length sc, .slice MA x.makes.length mc])
  have hbl1 : Below base w w1 := ((Below.refl _ _).alloc (by omega) _).trans hb1
  have hK1 := ((BKeep.refl R w).alloc (.cells #[.int .i64 x.at_, .int .i64 x.steps, .slice SA x.sets.length sc, .slice MA x.makes.length mc] 102)).trans hk1
  have c2 := hC1.cell 2 (v := .slice SA x.sets.length sc) rfl
  have hlen1 : (out ++ Ord.bys (Ord.numsB [x.at_, x.steps, (x.sets.length : Int)])).length ≤ out.length + 30 := by
    rw [List.length_append]
    have := Ord.nums_bound (l := [x.at_, x.steps, (x.sets.length : Int)]) (by intro z hz; simp at hz; rcases hz with rfl | rfl | rfl; exact HH.out.2.2.2.2.1; exact HH.out.2.2.2.2.2; unfold I64; omega)
    simp only [List.length_cons, List.length_nil] at this
    omega
  have H1 := Lib.hid (And.intro hW1 (And.intro hC1 (And.intro hK1 hlen1))); clear hW1 hC1 hK1 hk1 hlen1
  have lt1 : w.heap.size < w1.heap.size := H1.out.2.1.lt
  go_wp2_with fail
  clear c2
  go_loopg [23] (x.sets.length) (fun gk iv wr => ∃ (k : Nat) (o1 : List U8), k ≤ x.sets.length ∧ gk = x.sets.length - k ∧ iv = .int .i64 k ∧ o1.length ≤ out.length + 30 + k * 30 ∧ Hid (o1 = out ++ Ord.bys (Ord.numsB ([x.at_, x.steps, (x.sets.length : Int)] ++ (x.sets.take k).flatMap Ord.setNums)) ∧ Bw wr base R o1 ∧ BKeep R w wr ∧ Blk wr w.heap.size 102 #[.int .i64 x.at_, .int .i64 x.steps, .slice SA x.sets.length sc, .slice MA x.makes.length mc]) ∧ Below base w wr ∧ w.heap.size < wr.heap.size)
  case atStart => exact ⟨0, _, Nat.zero_le _, rfl, rfl, by have := H1.out.2.2.2; omega, ⟨by simp, H1.out.1, H1.out.2.2.1, H1.out.2.1⟩, hbl1, lt1⟩
  case round =>
    obtain ⟨k, o1, hk, rfl, rfl, ho1, hkeep, hbl, hwl⟩ := hrel
    have hRl := hkeep.out.2.1.lt
    by_cases hlt : k < x.sets.length
    · obtain ⟨b, o, a0, a1, a2, rfl, hbB, hx, i0, i1, i2, d0, d1, d2⟩ := (HH.out.1.below (hbl.mono hB)).trip hlt
      have hfs := Ord.fm_take Ord.setNums hx
      have hk0 : (0 : Int) ≤ (k : Int) := by omega
      have hk1 : (k : Int) < (x.sets.length : Int) := by omega
      have hFB := Blk.new wr 186 #[.int .i64 a0, .int .i64 a1, .int .i64 a2]
      have HX := Lib.hid (And.intro hfs (And.intro (And.intro i0 (And.intro i1 i2)) (And.intro hFB (And.intro hkeep.out.1 (And.intro (hkeep.out.2.1.alloc (.cells #[.int .i64 a0, .int .i64 a1, .int .i64 a2] 186)) (And.intro (hkeep.out.2.2.1.alloc (.cells #[.int .i64 a0, .int .i64 a1, .int .i64 a2] 186)) (hkeep.out.2.2.2.alloc (.cells #[.int .i64 a0, .int .i64 a1, .int .i64 a2] 186)))))))); clear hfs i0 i1 i2 hFB hkeep hx
      have hbla : Below base w (wr.alloc (.cells #[.int .i64 a0, .int .i64 a1, .int .i64 a2] 186)) := hbl.alloc (by omega) _
      go_wp2_with fail
      refine (nums_new R base (wr.heap.size + 1) 1 _ [a0] o1 _ (by simp) rfl rfl (by intro z hz; simp at hz; subst hz; exact HX.out.2.1.1) HX.out.2.2.2.2.1 (by omega)).mono ?_
      rintro en w2 ⟨rfl, hW2, hb2, hk2⟩
      have hF2 := hk2 _ _ _ (by omega) (by decide) HX.out.2.2.1
      have hC2 := hk2 _ _ _ (by omega) (by decide) HX.out.2.2.2.2.2.2
      have hbl2 := hbla.trans hb2
      have p1 := hF2.cell 1 (v := .int .i64 a1) rfl
      have p2 := hF2.cell 2 (v := .int .i64 a2) rfl
      have ltF := hF2.lt
      have hl2 : (o1 ++ Ord.bys (Ord.numsB [a0])).length ≤ o1.length + 10 := by
        rw [List.length_append]
        have := Ord.nums_bound (l := [a0]) (by intro z hz; simp at hz; subst hz; exact HX.out.2.1.1)
        simp only [List.length_cons, List.length_nil] at this
        omega
      have H2 := Lib.hid (And.intro hW2 (And.intro hC2 (HX.out.2.2.2.2.2.1.trans hk2))); clear hW2 hC2 hF2 hk2
      go_wp2_with fail
      refine (place_any R base a1 a2 _ w2 HX.out.2.1.2.1 HX.out.2.1.2.2 H2.out.1 (by omega)).mono ?_
      rintro en w3 ⟨rfl, hW3, hb3, hk3⟩
      have hC3 := hk3 _ _ _ (by omega) (by decide) H2.out.2.1
      have hbl3 := hbl2.trans hb3
      have heq : (o1 ++ Ord.bys (Ord.numsB [a0])) ++ Ord.bys (Ord.numsB [a1, a2]) = out ++ Ord.bys (Ord.numsB ([x.at_, x.steps, (x.sets.length : Int)] ++ (x.sets.take (k + 1)).flatMap Ord.setNums)) := by
        rw [HX.out.1, HX.out.2.2.2.1, List.append_assoc, ← Ord.bys_nums, List.append_assoc, ← Ord.bys_nums, List.append_assoc]; rfl
      have hl3 : ((o1 ++ Ord.bys (Ord.numsB [a0])) ++ Ord.bys (Ord.numsB [a1, a2])).length ≤ out.length + 30 + (k + 1) * 30 := by
        rw [List.length_append]
        have := Ord.nums_bound (l := [a1, a2]) (by intro z hz; simp at hz; rcases hz with rfl | rfl; exact HX.out.2.1.2.1; exact HX.out.2.1.2.2)
        simp only [List.length_cons, List.length_nil] at this
        omega
      have lt3 := hC3.lt
      have H3 := Lib.hid (And.intro heq (And.intro hW3 (And.intro (H2.out.2.2.trans hk3) (And.intro hC3 hl3)))); clear heq hW3 hk3 hC3 hl3 p1 p2
      go_wp2_with fail
      go_roundg (x.sets.length - (k + 1))
      case measure => omega
      case rel => exact ⟨k + 1, _, by omega, rfl, by go_num, H3.out.2.2.2.2, ⟨H3.out.1, H3.out.2.1, H3.out.2.2.1, H3.out.2.2.2.1⟩, hbl3, lt3⟩
    · have hk2 := hkeep.out
      rw [List.take_of_length_le (by omega)] at hk2
      have c3 := hk2.2.2.2.cell 3 (v := .slice MA x.makes.length mc) rfl
      have hFa := hk2.1
      have H2 := Lib.hid hk2; clear hk2 hkeep hFa
      have ho1' : o1.length ≤ out.length + 1830 := by omega
      clear ho1
      go_wp2_with fail
      refine (nums_new R base wr.heap.size 1 _ [(x.makes.length : Int)] o1 wr rfl rfl rfl (by intro z hz; simp at hz; subst hz; unfold I64; omega) H2.out.2.1 (by omega)).mono ?_
      rintro en w4 ⟨rfl, hW4, hb4, hk4⟩
      have hC4 := hk4 _ _ _ (by omega) (by decide) H2.out.2.2.2
      have hbl4 := hbl.trans hb4
      have c3' := hC4.cell 3 (v := .slice MA x.makes.length mc) rfl
      have lt4 := hC4.lt
      have hl4 : (o1 ++ Ord.bys (Ord.numsB [(x.makes.length : Int)])).length ≤ out.length + 1840 := by
        rw [List.length_append]
        have := Ord.nums_bound (l := [(x.makes.length : Int)]) (by intro z hz; simp at hz; subst hz; unfold I64; omega)
        simp only [List.length_cons, List.length_nil] at this
        omega
      have H4 := Lib.hid (And.intro hW4 (And.intro hC4 (H2.out.2.2.1.trans hk4))); clear hW4 hC4 hk4 c3
      go_wp2_with fail
      clear c3'
      go_loopg [46] (x.makes.length) (fun gj jv wj => ∃ (j : Nat) (o2 : List U8), j ≤ x.makes.length ∧ gj = x.makes.length - j ∧ jv = .int .i64 j ∧ o2.length ≤ out.length + 1840 + j * 2050 ∧ Hid (o2 = (o1 ++ Ord.bys (Ord.numsB [(x.makes.length : Int)])) ++ Ord.bys (Ord.numsB ((x.makes.take j).flatMap Ord.makeNums)) ∧ Bw wj base R o2 ∧ BKeep R w wj) ∧ Below base w wj)
      case atStart => exact ⟨0, _, Nat.zero_le _, rfl, rfl, by omega, ⟨by simp [Ord.numsB, Ord.bys], H4.out.1, H4.out.2.2⟩, hbl4⟩
      case round =>
        obtain ⟨j, o2, hj, rfl, rfl, ho2, hkeep, hblj⟩ := hrel
        have hRj := hkeep.out.2.1.lt
        by_cases hjt : j < x.makes.length
        · obtain ⟨b, o, m, VA, vc, rfl, hbB, hx, q0, q1, q2, q3, q4, av, hvc, j0, j1, j2, j3⟩ := (HH.out.2.1.below (hblj.mono hB)).rM_ hjt
          have hm100 := HH.out.2.2.2.1 m (List.mem_of_getElem? hx)
          obtain ⟨⟨m0, m1⟩, mk, mn, vals⟩ := m
          simp only at q0 q1 q2 q3 q4 av hvc j0 j1 j2 j3 hm100
          have hfs := Ord.fm_take Ord.makeNums hx
          have hj0 : (0 : Int) ≤ (j : Int) := by omega
          have hj1 : (j : Int) < (x.makes.length : Int) := by omega
          obtain ⟨F, hF⟩ : ∃ F : Array Value, F = #[.int .i64 m0, .int .i64 m1, .int .i64 mk, .int .i64 mn, .slice VA vals.length vc] := ⟨_, rfl⟩
          have hFB := Blk.new wr 189 F
          have hWa := hkeep.out.2.1.alloc (.cells F 189)
          have hKa := hkeep.out.2.2.alloc (.cells F 189)
          have hbla : Below base w (wr.alloc (.cells F 189)) := hblj.alloc (by omega) _
          rw [hF] at hFB hWa hKa hbla
          have p0 := hFB.cell 0 (v := .int .i64 m0) rfl
          have p1 := hFB.cell 1 (v := .int .i64 m1) rfl
          have HX := Lib.hid (And.intro hfs (And.intro (And.intro (And.intro j0 j1) (And.intro j2 j3)) (And.intro hFB (And.intro hkeep.out.1 (And.intro hWa (And.intro hKa av)))))); clear hfs j0 j1 j2 j3 hFB hkeep hx hWa hKa av hF F hvc p0 p1
          go_wp2_with fail
          refine (place_any R base m0 m1 o2 _ HX.out.2.1.1.1 HX.out.2.1.1.2 HX.out.2.2.2.2.1 (by omega)).mono ?_
          rintro en w5 ⟨rfl, hW5, hb5, hk5⟩
          have hF5 := hk5 _ _ _ (by omega) (by decide) HX.out.2.2.1
          have hbl5 := hbla.trans hb5
          have p2 := hF5.cell 2 (v := .int .i64 mk) rfl
          have p3 := hF5.cell 3 (v := .int .i64 mn) rfl
          have p4 := hF5.cell 4 (v := .slice VA vals.length vc) rfl
          have lt5 := hF5.lt
          have hl5 : (o2 ++ Ord.bys (Ord.numsB [m0, m1])).length ≤ o2.length + 20 := by
            rw [List.length_append]
            have := Ord.nums_bound (l := [m0, m1]) (by intro z hz; simp at hz; rcases hz with rfl | rfl; exact HX.out.2.1.1.1; exact HX.out.2.1.1.2)
            simp only [List.length_cons, List.length_nil] at this
            omega
          have H5 := Lib.hid (And.intro hW5 (And.intro hF5 (HX.out.2.2.2.2.2.1.trans hk5))); clear hW5 hF5 hk5
          go_wp2_with fail
          refine (nums_new R base w5.heap.size 3 _ [mk, mn, (vals.length : Int)] _ w5 rfl rfl rfl (by intro z hz; simp at hz; rcases hz with rfl | rfl | rfl; exact HX.out.2.1.2.1; exact HX.out.2.1.2.2; unfold I64; omega) H5.out.1 (by omega)).mono ?_
          rintro en w6 ⟨rfl, hW6, hb6, hk6⟩
          have hF6 := hk6 _ _ _ (by omega) (by decide) H5.out.2.1
          have hbl6 := hbl5.trans hb6
          have p4' := hF6.cell 4 (v := .slice VA vals.length vc) rfl
          have lt6 := hF6.lt
          have hl6 : ((o2 ++ Ord.bys (Ord.numsB [m0, m1])) ++ Ord.bys (Ord.numsB [mk, mn, (vals.length : Int)])).length ≤ o2.length + 50 := by
            rw [List.length_append]
            have := Ord.nums_bound (l := [mk, mn, (vals.length : Int)]) (by intro z hz; simp at hz; rcases hz with rfl | rfl | rfl; exact HX.out.2.1.2.1; exact HX.out.2.1.2.2; unfold I64; omega)
            simp only [List.length_cons, List.length_nil] at this
            omega
          have hbw6 : Below base wr w6 := (((Below.refl base wr).alloc (by omega) (.cells #[.int .i64 m0, .int .i64 m1, .int .i64 mk, .int .i64 mn, .slice VA vals.length vc] 189)).trans hb5).trans hb6
          have H6 := Lib.hid (And.intro hW6 (And.intro hF6 (H5.out.2.2.trans hk6))); clear hW6 hF6 hk6 p2 p3 p4
          obtain ⟨wo, rfl⟩ : ∃ wo : World, wo = wr := ⟨_, rfl⟩
          go_wp2_with fail
          clear p4'
          go_loopg [67] (vals.length) (fun gi vv wi => ∃ (i : Nat) (o3 : List U8), i ≤ vals.length ∧ gi = vals.length - i ∧ vv = .int .i64 i ∧ o3.length ≤ o2.length + 50 + i * 20 ∧ Hid (o3 = ((o2 ++ Ord.bys (Ord.numsB [m0, m1])) ++ Ord.bys (Ord.numsB [mk, mn, (vals.length : Int)])) ++ Ord.bys (Ord.numsB ((vals.take i).flatMap fun v => [v.1, v.2])) ∧ Bw wi base R o3 ∧ BKeep R w wi) ∧ Below base w wi ∧ Below base wo wi)
          case atStart => exact ⟨0, _, Nat.zero_le _, rfl, rfl, by omega, ⟨by simp [Ord.numsB, Ord.bys], H6.out.1, H6.out.2.2⟩, hbl6, hbw6⟩
          case round =>
            obtain ⟨i, o3, hi, rfl, rfl, ho3, hkeep, hbli, hbwi⟩ := hrel
            have hRi := hkeep.out.2.1.lt
            by_cases hit : i < vals.length
            · obtain ⟨b', o', u, v, rfl, hb', hx, hou, hov, e0, e1⟩ := (HX.out.2.2.2.2.2.2.below (hbwi.mono hB)).pair hit
              have hfs := Ord.fm_take (fun v : Int × Int => [v.1, v.2]) hx
              have hi0 : (0 : Int) ≤ (i : Int) := by omega
              have hi1 : (i : Int) < (vals.length : Int) := by omega
              have HT := Lib.hid (And.intro hfs (And.intro (hkeep.out.2.1.alloc (.cells #[.int .i64 u, .int .i64 v] 90)) (And.intro (hkeep.out.2.2.alloc (.cells #[.int .i64 u, .int .i64 v] 90)) (And.intro hkeep.out.1 (And.intro hou hov))))); clear hfs hx hou hov hkeep
              go_wp2_with fail
              refine (place_any R base u v o3 _ HT.out.2.2.2.2.1 HT.out.2.2.2.2.2 HT.out.2.1 (by omega)).mono ?_
              rintro en w7 ⟨rfl, hW7, hb7, hk7⟩
              have hbl7 : Below base w w7 := (hbli.alloc (by omega) _).trans hb7
              have hbw7 : Below base wo w7 := (hbwi.alloc (by omega) _).trans hb7
              have heq : o3 ++ Ord.bys (Ord.numsB [u, v]) = ((o2 ++ Ord.bys (Ord.numsB [m0, m1])) ++ Ord.bys (Ord.numsB [mk, mn, (vals.length : Int)])) ++ Ord.bys (Ord.numsB ((vals.take (i + 1)).flatMap fun v => [v.1, v.2])) := by
                rw [HT.out.1, Ord.bys_nums, ← List.append_assoc, ← HT.out.2.2.2.1]
              have hl7 : (o3 ++ Ord.bys (Ord.numsB [u, v])).length ≤ o2.length + 50 + (i + 1) * 20 := by
                rw [List.length_append]
                have := Ord.nums_bound (l := [u, v]) (by intro z hz; simp at hz; rcases hz with rfl | rfl; exact HT.out.2.2.2.2.1; exact HT.out.2.2.2.2.2)
                simp only [List.length_cons, List.length_nil] at this
                omega
              have H7 := Lib.hid (And.intro heq (And.intro hW7 (And.intro (HT.out.2.2.1.trans hk7) hl7))); clear heq hW7 hk7 hl7
              go_wp2_with fail
              go_roundg (vals.length - (i + 1))
              case measure => omega
              case rel => exact ⟨i + 1, _, by omega, rfl, by go_num, H7.out.2.2.2, ⟨H7.out.1, H7.out.2.1, H7.out.2.2.1⟩, hbl7, hbw7⟩
            · obtain ⟨k1, k2, k3⟩ := hkeep.out
              rw [List.take_of_length_le (by omega)] at k1
              have heq : o3 = (o1 ++ Ord.bys (Ord.numsB [(x.makes.length : Int)])) ++ Ord.bys (Ord.numsB ((x.makes.take (j + 1)).flatMap Ord.makeNums)) := by
                rw [HX.out.1, k1, HX.out.2.2.2.1, Ord.bys_nums]
                simp only [List.append_assoc, ← Ord.bys_nums]
                rfl
              have hl7 : o3.length ≤ out.length + 1840 + (j + 1) * 2050 := by omega
              have H7 := Lib.hid (And.intro heq (And.intro k2 (And.intro k3 hl7))); clear heq k1 k2 k3 hl7 hkeep
              go_wp2_with fail
              go_roundg (x.makes.length - (j + 1))
              case measure => omega
              case rel => exact ⟨j + 1, _, by omega, rfl, by go_num, H7.out.2.2.2, ⟨H7.out.1, H7.out.2.1, H7.out.2.2.1⟩, hbli⟩
        · obtain ⟨k1, k2, k3⟩ := hkeep.out
          rw [List.take_of_length_le (by omega)] at k1
          have heq : o2 = out ++ Ord.bys (Ord.numsB (Ord.exitNums x)) := by
            rw [k1, H2.out.1]
            simp only [List.append_assoc, ← Ord.bys_nums]
            unfold Ord.exitNums
            simp only [List.append_assoc]
          have H7 := Lib.hid (And.intro heq (And.intro k2 k3)); clear heq k1 k2 k3 hkeep
          go_wp2_with fail
          go_end0
          exact ⟨rfl, by have h2 := H7.out.2.1; rw [H7.out.1] at h2; exact h2, hblj, H7.out.2.2⟩

end Go.Proofs.Ytljdnadejmkaeaa

/- order.Encode. -/
namespace Go.Proofs.Ytljdnadejmkaeaa
open Go.RowKit
attribute [local go_sem ↓] Go.wp_at_zero Go.wp_at_succ

/-! ### slices.Clone at exits -/
set_option maxRecDepth 100000 in
theorem cloneRE_any (A : Option Addr) (c B n : Nat) (l : List (Raw 4)) (w : World) (hn : l.length = n) (h : At w B A l) (hB : B ≤ w.heap.size) (hl : n * 64 ≤ 140737488355328) :
    Calls Try.prog 89 #[.slice A n c] w fun e w' => ∃ A' c', e = .returned (.slice A' n c') ∧ Own w' w.heap.size 102 A' c' l ∧ Below w.heap.size w w' := by
  obtain ⟨i0, hi, hz0, hz1, hz2⟩ := info_parts infoRExit
  subst hn
  cases A with
  | none =>
    have hnil : l = [] := h.nil_len
    subst hnil
    have heq := fun w => run_eql_nil_slice w 98 102 none 0 c 0 0 Try.underlying98
    have heq2 := fun w => Lib.run_eql_slice_nil w 98 102 none 0 c 0 0 Try.underlying98
    go_enter Try.func89, Try.ntmps89
    go_wp2
    go_ret
    exact ⟨none, 0, rfl, Own.nil_, Below.refl _ _⟩
  | some a =>
    have heq2 := fun w => Lib.run_eql_slice_nil w 98 102 (some a) l.length c 0 0 Try.underlying98
    have H := Lib.hid h; clear h
    go_enter Try.func89, Try.ntmps89
    go_wp2_with (at_builtin; go_must (refine wpList_app (α := Raw 4) (n := 0) rfl (.tmp 5) (.tmp 6) _ rfl w.heap.size 102 i0 _ 64 Try.underlying98 hi hz0 hz1 hz2 rfl (by decide) raw_one (by rfl) rfl (own_new0 w _ _ _ rfl (Nat.le_refl _)) (by rfl) ((H.out).keep (fun p hp => World.cell?_alloc_lt w _ p (by omega))) rfl (by omega) (by simp only [maxLen]; omega) (by simp) ?_); intro A1 c1 w1 hown hgr hat)
    go_ret
    exact ⟨A1, c1, by simp, by simpa using hown, ((Below.refl _ _).alloc (Nat.le_refl _) _).grown hgr (by simp) (by simp [rowOf])⟩

namespace Ord
theorem makeNums_ok {m : RM} (h : I64 m.cell.1 ∧ I64 m.cell.2 ∧ I64 m.kind ∧ I64 m.num) (hv : ∀ v ∈ m.vals, Flat.ok v) (hl : m.vals.length ≤ 100) : ∀ z ∈ makeNums m, I64 z := by
  intro z hz
  unfold makeNums at hz
  rcases List.mem_append.1 hz with hz | hz
  · simp at hz; rcases hz with rfl | rfl | rfl | rfl | rfl
    · exact h.1
    · exact h.2.1
    · exact h.2.2.1
    · exact h.2.2.2
    · unfold I64; omega
  · obtain ⟨v, hv', hz⟩ := List.mem_flatMap.1 hz
    have := hv v hv'
    simp at hz; rcases hz with rfl | rfl
    · exact this.1
    · exact this.2
theorem exitNums_ok {w : World} {B : Nat} {SA MA : Option Addr} {x : RE} (hs : At w B SA x.sets) (hm : At w B MA x.makes) (hi : I64 x.at_ ∧ I64 x.steps) (hlg : large x = false) : (∀ z ∈ exitNums x, I64 z) ∧ (exitNums x).length ≤ 70000 := by
  obtain ⟨-, h1, h2, h3⟩ := large_no hlg
  constructor
  · intro z hz
    unfold exitNums at hz
    simp only [List.mem_append] at hz
    rcases hz with ((hz | hz) | hz) | hz
    · simp at hz; rcases hz with rfl | rfl | rfl
      · exact hi.1
      · exact hi.2
      · unfold I64; omega
    · obtain ⟨s, hs', hz⟩ := List.mem_flatMap.1 hz
      have := hs.ok_ s hs'
      simp [setNums] at hz; rcases hz with rfl | rfl | rfl
      · exact this.1
      · exact this.2.1
      · exact this.2.2
    · simp at hz; subst hz; unfold I64; omega
    · obtain ⟨m, hm', hz⟩ := List.mem_flatMap.1 hz
      obtain ⟨i, hi'⟩ := List.mem_iff_getElem?.1 hm'
      obtain ⟨b, o, m2, VA, vc, -, -, hx, -, -, -, -, -, av, -, j0, j1, j2, j3⟩ := hm.rM_ (List.getElem?_eq_some_iff.1 hi').1
      obtain rfl : m2 = m := Option.some.inj (hx.symm.trans hi')
      exact makeNums_ok ⟨j0, j1, j2, j3⟩ av.ok_ (h3 m2 hm') z hz
  · unfold exitNums
    simp only [List.length_append, List.length_cons, List.length_nil]
    have a1 := fm_le setNums x.sets 3 (fun s _ => by simp [setNums])
    have a2 := fm_le makeNums x.makes 205 (fun m hm => by
      have := h3 m hm
      have := fm_le (fun v : Int × Int => [v.1, v.2]) m.vals 2 (fun v _ => by simp)
      unfold makeNums
      simp only [List.length_append, List.length_cons, List.length_nil]
      omega)
    have a3 : x.makes.length * 205 ≤ 300 * 205 := Nat.mul_le_mul_right _ h2
    omega
end Ord

theorem cellsC {w : World} {g : Nat} {t : TypeId} {v0 v1 v2 v3 v4 v5 v6 v7 v8 v9 v10 v11 v12 v13 : Value} (h : Blk w g t #[v0, v1, v2, v3, v4, v5, v6, v7, v8, v9, v10, v11, v12, v13]) :
    w.cell? ⟨g, 5, none⟩ = some v5 ∧ w.cell? ⟨g, 6, none⟩ = some v6 ∧ w.cell? ⟨g, 7, none⟩ = some v7 ∧ w.cell? ⟨g, 8, none⟩ = some v8 ∧ w.cell? ⟨g, 9, none⟩ = some v9 ∧ w.cell? ⟨g, 10, none⟩ = some v10 ∧ w.cell? ⟨g, 11, none⟩ = some v11 ∧ w.cell? ⟨g, 12, none⟩ = some v12 ∧ w.cell? ⟨g, 13, none⟩ = some v13 :=
  ⟨h.cell 5 rfl, h.cell 6 rfl, h.cell 7 rfl, h.cell 8 rfl, h.cell 9 rfl, h.cell 10 rfl, h.cell 11 rfl, h.cell 12 rfl, h.cell 13 rfl⟩

theorem rows2_rd {w : World} {B : Nat} {c : RC} {OA EA TS TM BS BM : Option Addr} {tsc tmc bsc bmc : Nat} (h : CdAt w B c OA EA TS TM BS BM tsc tmc bsc bmc) {rs : List (Raw 4)} (hrl : rs.length = c.exits.length)
    (hr : ∀ (i : Nat) (r : Raw 4) (x : RE), rs[i]? = some r → c.exits[i]? = some x → Enc.rd w B r.cs x) (i : Nat) (r : Raw 4) (x : RE) (hri : (rs ++ [(⟨c.turn, TS, tsc, TM, tmc⟩ : ExA).raw, (⟨c.back, BS, bsc, BM, bmc⟩ : ExA).raw])[i]? = some r) (hxi : (c.exits ++ [c.turn, c.back])[i]? = some x) : Enc.rd w B r.cs x := by
  by_cases hi : i < rs.length
  · rw [List.getElem?_append_left hi] at hri
    rw [List.getElem?_append_left (by omega)] at hxi
    exact hr i r x hri hxi
  · rw [List.getElem?_append_right (by omega)] at hri
    rw [List.getElem?_append_right (by omega), ← hrl] at hxi
    generalize i - rs.length = j at hri hxi
    match j with
    | 0 => simp at hri hxi; subst hri hxi; exact h.2.2.1
    | 1 => simp at hri hxi; subst hri hxi; exact h.2.2.2
    | j + 2 => simp at hri
theorem own_keep {α : Type} [Flat α] {w w' : World} {base R : Nat} {e : TypeId} {A : Option Addr} {c : Nat} {l : List α} (h : Own w base e A c l) (hk : BKeep R w w') (he : e ≠ 5) (hR : rowOf A ≠ some R) : Own w' base e A c l :=
  h.block_ fun g hg => by
    rcases h.2 with ⟨h1, _⟩ | ⟨g', cap, cur, hv, _, hh, _⟩
    · injection h1 with h3; rw [h3] at hg; cases hg
    · injection hv with h3; rw [h3] at hg; injection hg with hg; simp only at hg; subst hg
      have hb : Blk w g' e cur := hh
      have := hk g' e cur (fun e2 => hR (by rw [h3, e2]; rfl)) he hb
      exact this.trans hb.symm
theorem exit_cells {w : World} {B : Nat} {r : Raw 4} {x : RE} (h : Enc.rd w B r.cs x) : ∃ (SA : Option Addr) (sc : Nat) (MA : Option Addr) (mc : Nat), r.cs = [.int .i64 x.at_, .int .i64 x.steps, .slice SA x.sets.length sc, .slice MA x.makes.length mc] ∧ At w B SA x.sets ∧ At w B MA x.makes ∧ I64 x.at_ ∧ I64 x.steps := by
  obtain ⟨c6, c7, h0, h1, h2, ⟨A6, d6, e6, l6, m6, -, t6⟩, ⟨A7, d7, e7, l7, m7, -, t7⟩⟩ := h
  injection e6 with e6; injection e7 with e7; subst e6 e7
  exact ⟨A6, d6, A7, d7, h0, t6, t7, h1, h2⟩

def EncPost (c : RC) (w : World) (e : Ending) (w' : World) : Prop := Below w.heap.size w w' ∧
  ((Ord.err c = 0 ∧ ∃ (A : Option Addr) (d : Nat), e = .returned (.tuple #[.slice A (Ord.bys (Ord.numsB (Ord.codeNums c))).length d, .int .i64 0]) ∧ Own w' w.heap.size 5 A d (Ord.bys (Ord.numsB (Ord.codeNums c)))) ∨
    (Ord.err c ≠ 0 ∧ e = .returned (.tuple #[.slice none 0 0, .int .i64 (Ord.err c)])))
theorem Ord.err_ok {c : RC} (h : Ord.err c = 0) : Ord.tooLarge c = false := by
  unfold Ord.err at h
  cases ht : Ord.tooLarge c with
  | false => rfl
  | true => rw [ht] at h; simp at h
theorem Ord.notLarge {c : RC} (h : Ord.tooLarge c = false) : c.orders.length ≤ 1500 ∧ c.exits.length ≤ 200 := by
  unfold Ord.tooLarge at h
  simp only [Bool.or_eq_false_iff, decide_eq_false_iff_not] at h
  omega

set_option maxHeartbeats 6400000 in
set_option maxRecDepth 100000 in
theorem encode_any (B oc ec tsc tmc bsc bmc : Nat) (OA EA TS TM BS BM : Option Addr) (c : RC) (w : World) (h : CdAt w B c OA EA TS TM BS BM tsc tmc bsc bmc) (hB : B ≤ w.heap.size) (hol : c.orders.length ≤ 9223372036854775807) (hel : (c.exits.length + 2) * 64 ≤ 140737488355328)
    (hoi : ∀ x ∈ c.orders, (I64 x.a ∧ I64 x.b ∧ I64 x.c) ∧ I64 x.k.1 ∧ I64 x.k.2) (hci : I64 c.fn ∧ I64 c.at_ ∧ I64 c.loop ∧ I64 c.slots) (hoo : ∀ x ∈ c.orders, I64 x.op ∧ I64 x.n ∧ I64 x.exit) :
    Calls Try.prog 43 #[.agg #[.int .i64 c.fn, .int .i64 c.at_, .int .i64 c.loop, .int .i64 c.slots, .slice OA c.orders.length oc, .slice EA c.exits.length ec, .int .i64 c.turn.at_, .int .i64 c.turn.steps, .slice TS c.turn.sets.length tsc, .slice TM c.turn.makes.length tmc, .int .i64 c.back.at_, .int .i64 c.back.steps, .slice BS c.back.sets.length bsc, .slice BM c.back.makes.length bmc]] w (EncPost c w) := by
  obtain ⟨P, hP⟩ : ∃ P, EncPost c w = P := ⟨_, rfl⟩
  rw [hP]
  obtain ⟨i0, hi, hz0, hz1, hz2⟩ := info_parts infoRExit
  obtain ⟨rs, hrl, hrat, hrr⟩ := h.2.1.raws (n := 4) rfl re_one
  have HP := Lib.hid (And.intro hP.symm (And.intro hoi (And.intro hci hoo))); clear hP hoi hci hoo
  have H := Lib.hid (And.intro h (And.intro hrl (And.intro hrat hrr))); clear h hrl hrat hrr
  go_enter Try.func43, Try.ntmps43
  go_wp2_with (refine wpList_ld rfl 104 (.tmp 1) rfl w.heap.size rfl (Blk.new w _ _) Try.underlying104 rfl (by kernel_rfl) ?_)
  refine calls_world (fun W => Blk W w.heap.size 104 #[.int .i64 c.fn, .int .i64 c.at_, .int .i64 c.loop, .int .i64 c.slots, .slice OA c.orders.length oc, .slice EA c.exits.length ec, .int .i64 c.turn.at_, .int .i64 c.turn.steps, .slice TS c.turn.sets.length tsc, .slice TM c.turn.makes.length tmc, .int .i64 c.back.at_, .int .i64 c.back.steps, .slice BS c.back.sets.length bsc, .slice BM c.back.makes.length bmc] ∧ Below w.heap.size w W ∧ w.heap.size + 1 ≤ W.heap.size) ⟨Blk.new _ _ _, (Below.refl _ _).alloc (Nat.le_refl _) _, by simp⟩ ?_
  rintro W ⟨hC, hb0, hs0⟩
  refine (ocheck_any B oc ec tsc tmc bsc bmc OA EA TS TM BS BM c W (H.out.1.below (hb0.mono hB)) (by omega) hol hel HP.out.2.1).mono ?_
  rintro e w1 ⟨rfl, hb1⟩
  obtain ⟨er, her⟩ : ∃ er, Ord.err c = er := ⟨_, rfl⟩
  rw [her]
  have hs1 := hb1.size
  have hbl1 := hb0.trans (hb1.mono (by omega))
  have H1 := Lib.hid (And.intro (hC.fresh hb1) (And.intro (H.out.1.below (hbl1.mono hB)) (And.intro (H.out.2.2.1.below (hbl1.mono hB)) her))); clear hC her
  by_cases h0 : er = 0
  rotate_left
  · have hne : (er != 0) = true := by simp [h0]
    have HE := Lib.hid h0; clear h0
    go_wp2_with fail
    rw [HP.out.1]
    exact ⟨hbl1, .inr ⟨by rw [H1.out.2.2.2]; exact HE.out, by rw [H1.out.2.2.2]; rfl⟩⟩
  subst h0
  have htl := Ord.err_ok H1.out.2.2.2
  obtain ⟨hol2, hel2⟩ := Ord.notLarge htl
  have HL := Lib.hid (Ord.large_all htl); clear htl
  have hWr : Bw (w1.alloc (.cells #[.slice none 0 0] 149)) w1.heap.size w1.heap.size [] := ⟨none, 0, Blk.new _ _ _, Own.nil_, Nat.le_refl _⟩
  have c0 := H1.out.1.cell 0 (v := .int .i64 c.fn) rfl
  have c1 := H1.out.1.cell 1 (v := .int .i64 c.at_) rfl
  have c2 := H1.out.1.cell 2 (v := .int .i64 c.loop) rfl
  have c3 := H1.out.1.cell 3 (v := .int .i64 c.slots) rfl
  have c4 := H1.out.1.cell 4 (v := .slice OA c.orders.length oc) rfl
  have lt1 : w.heap.size < w1.heap.size := by omega
  have hok5 : ∀ z ∈ [c.fn, c.at_, c.loop, c.slots, (c.orders.length : Int)], I64 z := by
    obtain ⟨j0, j1, j2, j3⟩ := HP.out.2.2.1
    intro z hz; simp at hz; rcases hz with rfl | rfl | rfl | rfl | rfl
    · exact j0
    · exact j1
    · exact j2
    · exact j3
    · unfold I64; omega
  have HW := Lib.hid (And.intro hWr (And.intro hok5 (H1.out.1.alloc (.cells #[.slice none 0 0] 149)))); clear hWr hok5
  go_wp2_with fail
  refine (nums_new w1.heap.size w1.heap.size (w1.heap.size + 1) 5 _ [c.fn, c.at_, c.loop, c.slots, (c.orders.length : Int)] [] (w1.alloc (.cells #[.slice none 0 0] 149)) (by simp) rfl rfl HW.out.2.1 HW.out.1 (by simp)).mono ?_
  rintro en w2 ⟨rfl, hW2, hb2, hk2⟩
  have hC2 := hk2 _ _ _ (by omega) (by decide) HW.out.2.2
  have hbl2 : Below w1.heap.size w1 w2 := ((Below.refl _ _).alloc (Nat.le_refl _) _).trans hb2
  have d4 := hC2.cell 4 (v := .slice OA c.orders.length oc) rfl
  have lt2 := hC2.lt
  have hl2 : ([] ++ Ord.bys (Ord.numsB [c.fn, c.at_, c.loop, c.slots, (c.orders.length : Int)])).length ≤ 50 := by
    have := Ord.nums_bound HW.out.2.1
    simpa using this
  have H2 := Lib.hid (And.intro hW2 (And.intro hC2 hl2)); clear hW2 hC2 hk2 hl2 c0 c1 c2 c3 c4
  go_wp2_with fail
  clear d4
  go_loopg [34] (c.orders.length) (fun gk iv wr => ∃ (k : Nat) (o1 : List U8), k ≤ c.orders.length ∧ gk = c.orders.length - k ∧ iv = .int .i64 k ∧ o1.length ≤ 50 + k * 80 ∧ Hid (o1 = Ord.bys (Ord.numsB ([c.fn, c.at_, c.loop, c.slots, (c.orders.length : Int)] ++ (c.orders.take k).flatMap Ord.orderNums)) ∧ Bw wr w1.heap.size w1.heap.size o1 ∧ Blk wr w.heap.size 104 #[.int .i64 c.fn, .int .i64 c.at_, .int .i64 c.loop, .int .i64 c.slots, .slice OA c.orders.length oc, .slice EA c.exits.length ec, .int .i64 c.turn.at_, .int .i64 c.turn.steps, .slice TS c.turn.sets.length tsc, .slice TM c.turn.makes.length tmc, .int .i64 c.back.at_, .int .i64 c.back.steps, .slice BS c.back.sets.length bsc, .slice BM c.back.makes.length bmc]) ∧ Below w1.heap.size w1 wr ∧ w.heap.size < wr.heap.size)
  case atStart => exact ⟨0, _, Nat.zero_le _, rfl, rfl, by have := H2.out.2.2; omega, ⟨by simp, H2.out.1, H2.out.2.1⟩, hbl2, lt2⟩
  case round =>
    obtain ⟨k, o1, hk, rfl, rfl, ho1, hkeep, hbl, hwl⟩ := hrel
    have hRl := hkeep.out.2.1.lt
    by_cases hlt : k < c.orders.length
    · obtain ⟨b, o, x, rfl, hbB, hx, q0, q1, q2, q3, q4, q5, q6, q7, j0, j1, j2, j3, j4, j5, j6, j7⟩ := (H1.out.2.1.1.below (hbl.mono (by omega))).rO_ hlt
      have hfs := Ord.fm_take Ord.orderNums hx
      have hk0 : (0 : Int) ≤ (k : Int) := by omega
      have hk1 : (k : Int) < (c.orders.length : Int) := by omega
      have hok : ∀ z ∈ Ord.orderNums x, I64 z := by
        intro z hz; simp [Ord.orderNums] at hz; rcases hz with rfl | rfl | rfl | rfl | rfl | rfl | rfl | rfl <;> assumption
      have HX := Lib.hid (And.intro hfs (And.intro hok (And.intro hkeep.out.1 (And.intro (hkeep.out.2.1.alloc (.cells #[.int .i64 x.op, .int .i64 x.a, .int .i64 x.b, .int .i64 x.c, .int .i64 x.n, .int .i64 x.exit, .int .i64 x.k.1, .int .i64 x.k.2] 146)) (hkeep.out.2.2.alloc (.cells #[.int .i64 x.op, .int .i64 x.a, .int .i64 x.b, .int .i64 x.c, .int .i64 x.n, .int .i64 x.exit, .int .i64 x.k.1, .int .i64 x.k.2] 146)))))); clear hfs hok hkeep hx j0 j1 j2 j3 j4 j5 j6 j7
      have hbla : Below w1.heap.size w1 (wr.alloc (.cells #[.int .i64 x.op, .int .i64 x.a, .int .i64 x.b, .int .i64 x.c, .int .i64 x.n, .int .i64 x.exit, .int .i64 x.k.1, .int .i64 x.k.2] 146)) := hbl.alloc (by omega) _
      go_wp2_with fail
      refine (nums_new w1.heap.size w1.heap.size (wr.heap.size + 1) 8 _ (Ord.orderNums x) o1 _ (by simp) rfl rfl HX.out.2.1 HX.out.2.2.2.1 (by omega)).mono ?_
      rintro en w4 ⟨rfl, hW4, hb4, hk4⟩
      have hC4 := hk4 _ _ _ (by omega) (by decide) HX.out.2.2.2.2
      have hbl4 := hbla.trans hb4
      have lt4 := hC4.lt
      have heq : o1 ++ Ord.bys (Ord.numsB (Ord.orderNums x)) = Ord.bys (Ord.numsB ([c.fn, c.at_, c.loop, c.slots, (c.orders.length : Int)] ++ (c.orders.take (k + 1)).flatMap Ord.orderNums)) := by
        rw [HX.out.1, HX.out.2.2.1, ← Ord.bys_nums, List.append_assoc]
      have hl4 : (o1 ++ Ord.bys (Ord.numsB (Ord.orderNums x))).length ≤ 50 + (k + 1) * 80 := by
        rw [List.length_append]
        have := Ord.nums_bound HX.out.2.1
        have h8 : (Ord.orderNums x).length = 8 := rfl
        rw [h8] at this
        omega
      have H4 := Lib.hid (And.intro heq (And.intro hW4 (And.intro hC4 hl4))); clear heq hW4 hC4 hk4 hl4
      go_wp2_with fail
      go_roundg (c.orders.length - (k + 1))
      case measure => omega
      case rel => exact ⟨k + 1, _, by omega, rfl, by go_num, H4.out.2.2.2, ⟨H4.out.1, H4.out.2.1, H4.out.2.2.1⟩, hbl4, lt4⟩
    · have hk2 := hkeep.out
      rw [List.take_of_length_le (by omega)] at hk2
      have c5 := hk2.2.2.cell 5 (v := .slice EA c.exits.length ec) rfl
      have H3 := Lib.hid hk2; clear hk2 hkeep
      have ho1' : o1.length ≤ 130000 := by omega
      clear ho1
      go_wp2_with fail
      refine (nums_new w1.heap.size w1.heap.size wr.heap.size 1 _ [(c.exits.length : Int)] o1 wr rfl rfl rfl (by intro z hz; simp at hz; subst hz; unfold I64; omega) H3.out.2.1 (by omega)).mono ?_
      rintro en w4 ⟨rfl, hW4, hb4, hk4⟩
      have hC4 := hk4 _ _ _ (by omega) (by decide) H3.out.2.2
      have hbl4 := hbl.trans hb4
      have lt4 := hC4.lt
      have hs4 := hbl4.size
      have hl4 : (o1 ++ Ord.bys (Ord.numsB [(c.exits.length : Int)])).length ≤ 130010 := by
        rw [List.length_append]
        have := Ord.nums_bound (l := [(c.exits.length : Int)]) (by intro z hz; simp at hz; subst hz; unfold I64; omega)
        simp only [List.length_cons, List.length_nil] at this
        omega
      have H4 := Lib.hid (And.intro hW4 (And.intro hC4 (And.intro (H1.out.2.1.below (hbl4.mono (by omega))) (H1.out.2.2.1.below (hbl4.mono (by omega)))))); clear hW4 hC4 hk4 c5
      go_upto_region 12 with fail
      go_cut [74, 75, 76] (fun lv nv iv W2 => ∃ (XA : Option Addr) (xc : Nat), lv = .slice XA (c.exits.length + 2) xc ∧ nv = .int .i64 ((c.exits.length + 2 : Nat) : Int) ∧ iv = .int .i64 0 ∧ Hid (Own W2 w4.heap.size 102 XA xc (rs ++ [(⟨c.turn, TS, tsc, TM, tmc⟩ : ExA).raw, (⟨c.back, BS, bsc, BM, bmc⟩ : ExA).raw])) ∧ Below w4.heap.size w4 W2)
      case first =>
        have hLT : (#[.int .i64 c.turn.at_, .int .i64 c.turn.steps, .slice TS c.turn.sets.length tsc, .slice TM c.turn.makes.length tmc, .int .i64 c.back.at_, .int .i64 c.back.steps, .slice BS c.back.sets.length bsc, .slice BM c.back.makes.length bmc] : Array Value).toList = flat [(⟨c.turn, TS, tsc, TM, tmc⟩ : ExA).raw, (⟨c.back, BS, bsc, BM, bmc⟩ : ExA).raw] := rfl
        have HLT := Lib.hid hLT; clear hLT
        have hs4B : B ≤ w4.heap.size := by omega
        refine wp_region_held_drew (S := (fun w' => w'.cell? ⟨w.heap.size, 5, none⟩ = some (.slice EA c.exits.length ec) ∧ w'.cell? ⟨w.heap.size, 6, none⟩ = some (.int .i64 c.turn.at_) ∧ w'.cell? ⟨w.heap.size, 7, none⟩ = some (.int .i64 c.turn.steps) ∧ w'.cell? ⟨w.heap.size, 8, none⟩ = some (.slice TS c.turn.sets.length tsc) ∧ w'.cell? ⟨w.heap.size, 9, none⟩ = some (.slice TM c.turn.makes.length tmc) ∧ w'.cell? ⟨w.heap.size, 10, none⟩ = some (.int .i64 c.back.at_) ∧ w'.cell? ⟨w.heap.size, 11, none⟩ = some (.int .i64 c.back.steps) ∧ w'.cell? ⟨w.heap.size, 12, none⟩ = some (.slice BS c.back.sets.length bsc) ∧ w'.cell? ⟨w.heap.size, 13, none⟩ = some (.slice BM c.back.makes.length bmc))) (by kernel_rfl) ?_ (fun hHeld0 => ?_)
        · first | trivial | ((try dsimp only); (exact cellsC H4.out.2.1))
        refine held_take (v := ?_) 0 rfl (by kernel_rfl) (by kernel_rfl) (by kernel_rfl) (fun _ _ _ h => h) (by rfl) ?_ (by assumption) ?_
        rotate_left
        · (intro w hSw; (try dsimp only at hSw); go_simp; try with_reducible rfl)
        try simp only [Act.put, List.setIfInBounds_toArray, List.set_cons_zero, List.set_cons_succ]
        refine held_take (v := ?_) 1 rfl (by kernel_rfl) (by kernel_rfl) (by kernel_rfl) (fun _ _ _ h => h) (by rfl) ?_ (by assumption) ?_
        rotate_left
        · (intro w hSw; (try dsimp only at hSw); go_simp; try with_reducible rfl)
        try simp only [Act.put, List.setIfInBounds_toArray, List.set_cons_zero, List.set_cons_succ]
        refine held_take (v := ?_) 3 rfl (by kernel_rfl) (by kernel_rfl) (by kernel_rfl) (fun _ _ _ h => h) (by rfl) ?_ (by assumption) ?_
        rotate_left
        · (intro w hSw; (try dsimp only at hSw); go_simp; try with_reducible rfl)
        try simp only [Act.put, List.setIfInBounds_toArray, List.set_cons_zero, List.set_cons_succ]
        refine held_take (v := ?_) 4 rfl (by kernel_rfl) (by kernel_rfl) (by kernel_rfl) (fun _ _ _ h => h) (by rfl) ?_ (by assumption) ?_
        rotate_left
        · (intro w hSw; (try dsimp only at hSw); go_simp; try with_reducible rfl)
        try simp only [Act.put, List.setIfInBounds_toArray, List.set_cons_zero, List.set_cons_succ]
        refine held_take (v := ?_) 5 rfl (by kernel_rfl) (by kernel_rfl) (by kernel_rfl) (fun _ _ _ h => h) (by rfl) ?_ (by assumption) ?_
        rotate_left
        · (intro w hSw; (try dsimp only at hSw); go_simp; try with_reducible rfl)
        try simp only [Act.put, List.setIfInBounds_toArray, List.set_cons_zero, List.set_cons_succ]
        refine held_take (v := ?_) 6 rfl (by kernel_rfl) (by kernel_rfl) (by kernel_rfl) (fun _ _ _ h => h) (by rfl) ?_ (by assumption) ?_
        rotate_left
        · (intro w hSw; (try dsimp only at hSw); go_simp; try with_reducible rfl)
        try simp only [Act.put, List.setIfInBounds_toArray, List.set_cons_zero, List.set_cons_succ]
        refine held_take (v := ?_) 10 rfl (by kernel_rfl) (by kernel_rfl) (by kernel_rfl) (fun _ _ _ h => h) (by rfl) ?_ (by assumption) ?_
        rotate_left
        · (intro w hSw; (try dsimp only at hSw); go_simp; try with_reducible rfl)
        try simp only [Act.put, List.setIfInBounds_toArray, List.set_cons_zero, List.set_cons_succ]
        refine held_call2 2 7 (by kernel_rfl) rfl rfl (fun K hK => ?_) (fun K hK => ?_)
        · go_simp
          go_at_call 89; refine (cloneRE_any EA ec B c.exits.length rs _ H.out.2.1 H4.out.2.2.2.drew hs4B (by omega)).mono ?_; rintro e w5 ⟨A5, d5, rfl, ho5, hb5d⟩; have hb5 : Below w4.heap.size w4 w5 := undrew hb5d; clear hb5d; have hk2 := H4.out.2.1.fresh hb5; have hs5 := hb5.size
          try (go_wp2_with fail)
          refine hK.out _ _ ?_ (fun hHeld1 => ?_)
          · first | trivial | ((try dsimp only); (exact cellsC hk2))
          clear hK K hHeld0
          try simp only [Act.put, List.setIfInBounds_toArray, List.set_cons_zero, List.set_cons_succ]
          refine held_call 7 (by kernel_rfl) rfl (fun K hK => ?_)
          go_simp
          refine hK.out _ _ ?_ (fun hHeld2 => ?_)
          · first | trivial | ((try dsimp only); (exact cellsC (hk2.alloc _)))
          clear hK K hHeld1
          try simp only [Act.put, List.setIfInBounds_toArray, List.set_cons_zero, List.set_cons_succ]
          refine held_call 8 (by kernel_rfl) rfl (fun K hK => ?_)
          refine step_app (α := Raw 4) (n := c.exits.length) (m := 2) (nm := c.exits.length + 2) (B := w5.heap.size + 1) (r := [(⟨c.turn, TS, tsc, TM, tmc⟩ : ExA).raw, (⟨c.back, BS, bsc, BM, bmc⟩ : ExA).raw]) (by rfl) (.tmp 68) (.tmp 73) _ (by rfl) w4.heap.size 102 i0 _ 64 Try.underlying98 hi hz0 hz1 hz2 rfl (by decide) raw_one (by rfl) H.out.2.1 (ho5.alloc _) (by rfl) (At.built w5 _ _ _ HLT.out (fun _ _ => trivial)) rfl rfl (by omega) (by simp only [maxLen]; omega) (by rw [World.size_alloc]; omega) ?_; intro A8 c8 w8 ho8 hgr8 hat8; have hk8 := (hk2.alloc (.cells #[.int .i64 c.turn.at_, .int .i64 c.turn.steps, .slice TS c.turn.sets.length tsc, .slice TM c.turn.makes.length tmc, .int .i64 c.back.at_, .int .i64 c.back.steps, .slice BS c.back.sets.length bsc, .slice BM c.back.makes.length bmc] 102)).grown hgr8 (own_ne_ty (ho5.alloc (.cells #[.int .i64 c.turn.at_, .int .i64 c.turn.steps, .slice TS c.turn.sets.length tsc, .slice TM c.turn.makes.length tmc, .int .i64 c.back.at_, .int .i64 c.back.steps, .slice BS c.back.sets.length bsc, .slice BM c.back.makes.length bmc] 102)) (hk2.alloc (.cells #[.int .i64 c.turn.at_, .int .i64 c.turn.steps, .slice TS c.turn.sets.length tsc, .slice TM c.turn.makes.length tmc, .int .i64 c.back.at_, .int .i64 c.back.steps, .slice BS c.back.sets.length bsc, .slice BM c.back.makes.length bmc] 102)) (by decide)); have hb8 : Below w4.heap.size w4 w8 := (hb5.alloc hs5 _).grown hgr8 (by rw [World.size_alloc]; omega) (fun g hg => (ho5.lt g hg).1)
          refine hK.out _ _ ?_ (fun hHeld3 => ?_)
          · first | trivial | ((try dsimp only); (exact cellsC hk8))
          clear hK K hHeld2
          try simp only [Act.put, List.setIfInBounds_toArray, List.set_cons_zero, List.set_cons_succ]
          refine held_take (v := ?_) 9 rfl (by kernel_rfl) (by kernel_rfl) (by kernel_rfl) (fun _ _ _ h => h) (by rfl) ?_ (by assumption) ?_
          rotate_left
          · (intro w hSw; (try dsimp only at hSw); go_simp; try with_reducible rfl)
          try simp only [Act.put, List.setIfInBounds_toArray, List.set_cons_zero, List.set_cons_succ]
          refine wpAnyH_done (by kernel_rfl) ?_ _
          have HAX := Lib.hid (And.intro ho8 hb8); clear ho8 hgr8 hat8 hb8
          go_wp2_with fail
          go_meet
          exact ⟨A8, c8, rfl, by first | rfl | (congr 1; omega), rfl, HAX.out.1, HAX.out.2⟩
        · go_simp
          refine hK.out _ _ ?_ (fun hHeld1 => ?_)
          · first | trivial | ((try dsimp only); (exact cellsC (H4.out.2.1.alloc _)))
          clear hK K hHeld0
          try simp only [Act.put, List.setIfInBounds_toArray, List.set_cons_zero, List.set_cons_succ]
          refine held_call 2 (by kernel_rfl) rfl (fun K hK => ?_)
          go_simp
          go_at_call 89; refine (cloneRE_any EA ec B c.exits.length rs _ H.out.2.1 (H4.out.2.2.2.drew.alloc hs4B _) (by rw [World.size_alloc]; exact Nat.le_succ_of_le hs4B) (by omega)).mono ?_; rintro e w5 ⟨A5, d5, rfl, ho5, hb5⟩; have hk2 := (H4.out.2.1.drew.alloc (.cells #[.int .i64 c.turn.at_, .int .i64 c.turn.steps, .slice TS c.turn.sets.length tsc, .slice TM c.turn.makes.length tmc, .int .i64 c.back.at_, .int .i64 c.back.steps, .slice BS c.back.sets.length bsc, .slice BM c.back.makes.length bmc] 102)).fresh hb5; have hb45 : Below w4.heap.size w4 w5 := (((Below.refl w4.heap.size w4).drew).alloc (Nat.le_refl _) _).trans (hb5.mono (by rw [World.size_alloc]; exact Nat.le_succ _)); have hs5 := hb45.size
          try (go_wp2_with fail)
          refine hK.out _ _ ?_ (fun hHeld2 => ?_)
          · first | trivial | ((try dsimp only); (exact cellsC hk2))
          clear hK K hHeld1
          try simp only [Act.put, List.setIfInBounds_toArray, List.set_cons_zero, List.set_cons_succ]
          refine held_call 8 (by kernel_rfl) rfl (fun K hK => ?_)
          refine step_app (α := Raw 4) (n := c.exits.length) (m := 2) (nm := c.exits.length + 2) (B := w4.heap.size + 1) (r := [(⟨c.turn, TS, tsc, TM, tmc⟩ : ExA).raw, (⟨c.back, BS, bsc, BM, bmc⟩ : ExA).raw]) (by rfl) (.tmp 68) (.tmp 73) _ (by rfl) w4.heap.size 102 i0 _ 64 Try.underlying98 hi hz0 hz1 hz2 rfl (by decide) raw_one (by rfl) H.out.2.1 (ho5.base_le (by rw [World.size_alloc]; exact Nat.le_succ _)) (by rfl) ((At.built w4.drew _ _ _ HLT.out (fun _ _ => trivial)).below (hb5.mono (by rw [World.size_alloc]; exact Nat.le_refl _))) rfl rfl (by omega) (by simp only [maxLen]; omega) (by omega) ?_; intro A8 c8 w8 ho8 hgr8 hat8; have hk8 := hk2.grown hgr8 (own_ne_ty ho5 hk2 (by decide)); have hb8 : Below w4.heap.size w4 w8 := hb45.grown hgr8 hs5 (fun g hg => by have h := (ho5.lt g hg).1; rw [World.size_alloc] at h; exact Nat.le_of_succ_le h)
          refine hK.out _ _ ?_ (fun hHeld3 => ?_)
          · first | trivial | ((try dsimp only); (exact cellsC hk8))
          clear hK K hHeld2
          try simp only [Act.put, List.setIfInBounds_toArray, List.set_cons_zero, List.set_cons_succ]
          refine held_take (v := ?_) 9 rfl (by kernel_rfl) (by kernel_rfl) (by kernel_rfl) (fun _ _ _ h => h) (by rfl) ?_ (by assumption) ?_
          rotate_left
          · (intro w hSw; (try dsimp only at hSw); go_simp; try with_reducible rfl)
          try simp only [Act.put, List.setIfInBounds_toArray, List.set_cons_zero, List.set_cons_succ]
          refine wpAnyH_done (by kernel_rfl) ?_ _
          have HAX := Lib.hid (And.intro ho8 hb8); clear ho8 hgr8 hat8 hb8
          go_wp2_with fail
          go_meet
          exact ⟨A8, c8, rfl, by first | rfl | (congr 1; omega), rfl, HAX.out.1, HAX.out.2⟩
      case rest =>
        obtain ⟨w5, rfl⟩ : ∃ v : World, v = wc := ⟨_, rfl⟩
        obtain ⟨XA, xc, rfl, rfl, rfl, hOX, hb5⟩ := hcut
        have hs5 := hb5.size
        have hbl5 : Below w1.heap.size w1 w5 := hbl4.trans (hb5.mono (by omega))
        obtain ⟨o4, ho4⟩ : ∃ o4, o1 ++ Ord.bys (Ord.numsB [(c.exits.length : Int)]) = o4 := ⟨_, rfl⟩
        have hBw := H4.out.1.fresh hb5
        rw [ho4] at hBw hl4
        have H5 := Lib.hid (And.intro hOX.out (And.intro hBw ho4)); clear hOX hBw ho4 H4
        have hxl : (c.exits ++ [c.turn, c.back]).length = c.exits.length + 2 := by simp
        have HXL := Lib.hid hxl; clear hxl
        obtain ⟨nx, hnx⟩ : ∃ nx, c.exits.length + 2 = nx := ⟨_, rfl⟩
        rw [hnx] at HXL ⊢
        have hnx2 : nx ≤ 202 := by omega
        have HNX := Lib.hid hnx; clear hnx
        have ltw5 : w.heap.size < w5.heap.size := by omega
        go_wp2_with fail
        go_loopg [76] nx (fun gj jv wj => ∃ (j : Nat) (o2 : List U8), j ≤ nx ∧ gj = nx - j ∧ jv = .int .i64 j ∧ o2.length ≤ 130010 + j * 700000 ∧ Hid (o2 = o4 ++ Ord.bys (Ord.numsB (((c.exits ++ [c.turn, c.back]).take j).flatMap Ord.exitNums)) ∧ Bw wj w1.heap.size w1.heap.size o2 ∧ Own wj w4.heap.size 102 XA xc (rs ++ [(⟨c.turn, TS, tsc, TM, tmc⟩ : ExA).raw, (⟨c.back, BS, bsc, BM, bmc⟩ : ExA).raw])) ∧ Below w1.heap.size w1 wj)
        case atStart => exact ⟨0, o4, Nat.zero_le _, rfl, rfl, by omega, ⟨by simp [Ord.numsB, Ord.bys], H5.out.2.1, H5.out.1⟩, hbl5⟩
        case round =>
          obtain ⟨j, o2, hj, rfl, rfl, ho2, hkeep, hblj⟩ := hrel
          have hRj := hkeep.out.2.1.lt
          have hbwj : Below w.heap.size w wr := hbl1.trans (hblj.mono (by omega))
          by_cases hjt : j < nx
          · obtain ⟨x, hx⟩ : ∃ x, (c.exits ++ [c.turn, c.back])[j]? = some x := ⟨_, List.getElem?_eq_getElem (by rw [HXL.out]; exact hjt)⟩
            have hrlen : (rs ++ [(⟨c.turn, TS, tsc, TM, tmc⟩ : ExA).raw, (⟨c.back, BS, bsc, BM, bmc⟩ : ExA).raw]).length = nx := by rw [List.length_append, H.out.2.1, ← HNX.out]; rfl
            obtain ⟨r, hr⟩ : ∃ r, (rs ++ [(⟨c.turn, TS, tsc, TM, tmc⟩ : ExA).raw, (⟨c.back, BS, bsc, BM, bmc⟩ : ExA).raw])[j]? = some r := ⟨_, List.getElem?_eq_getElem (by rw [hrlen]; exact hjt)⟩
            have hrd := Enc.below (rows2_rd H.out.1 H.out.2.1 H.out.2.2.2 j r x hr hx) (hbwj.mono hB)
            obtain ⟨SA, sc, MA, mc, hcs, as_, am_, ia, ib⟩ := exit_cells hrd
            obtain ⟨gx, rfl, hgx1, hgx2⟩ := hkeep.out.2.2.some_ (by omega)
            have e0 := hkeep.out.2.2.raw_cell (u := .int .i64 x.at_) hr (j := 0) (by rw [hcs]; rfl)
            have e1 := hkeep.out.2.2.raw_cell (u := .int .i64 x.steps) hr (j := 1) (by rw [hcs]; rfl)
            have e2 := hkeep.out.2.2.raw_cell (u := .slice SA x.sets.length sc) hr (j := 2) (by rw [hcs]; rfl)
            have e3 := hkeep.out.2.2.raw_cell (u := .slice MA x.makes.length mc) hr (j := 3) (by rw [hcs]; rfl)
            rw [Nat.add_zero] at e0
            have hlg : Ord.large x = false := HL.out x (by
              have := List.mem_of_getElem? hx
              simp [Ord.allExits] at this ⊢
              rcases this with h | h | h
              · exact .inr (.inr h)
              · exact .inl h
              · exact .inr (.inl h))
            have hen := Ord.exitNums_ok as_ am_ ⟨ia, ib⟩ hlg
            have hfs := Ord.fm_take Ord.exitNums hx
            have hj0 : (0 : Int) ≤ (j : Int) := by omega
            have hj1 : (j : Int) < (nx : Int) := by omega
            have hj2 : j < xc := by have := hkeep.out.2.2.le_cap; rw [hrlen] at this; omega
            have hXB := Blk.new wr 102 #[.int .i64 x.at_, .int .i64 x.steps, .slice SA x.sets.length sc, .slice MA x.makes.length mc]
            have HX := Lib.hid (And.intro hfs (And.intro (And.intro (as_.alloc (show B ≤ wr.heap.size by omega) (.cells #[.int .i64 x.at_, .int .i64 x.steps, .slice SA x.sets.length sc, .slice MA x.makes.length mc] 102)) (am_.alloc (show B ≤ wr.heap.size by omega) (.cells #[.int .i64 x.at_, .int .i64 x.steps, .slice SA x.sets.length sc, .slice MA x.makes.length mc] 102))) (And.intro hkeep.out.1 (And.intro (hkeep.out.2.1.alloc (.cells #[.int .i64 x.at_, .int .i64 x.steps, .slice SA x.sets.length sc, .slice MA x.makes.length mc] 102)) (And.intro (hkeep.out.2.2.alloc (.cells #[.int .i64 x.at_, .int .i64 x.steps, .slice SA x.sets.length sc, .slice MA x.makes.length mc] 102)) (And.intro hen (And.intro (And.intro ia ib) (And.intro hlg hXB))))))))
            clear hfs as_ am_ hkeep hen ia ib hlg hx hr hrd hcs hrlen hXB
            have hbla : Below w1.heap.size w1 (wr.alloc (.cells #[.int .i64 x.at_, .int .i64 x.steps, .slice SA x.sets.length sc, .slice MA x.makes.length mc] 102)) := hblj.alloc (by omega) _
            go_wp2_with (refine wpList_ld rfl 102 (.tmp 9) rfl wr.heap.size rfl HX.out.2.2.2.2.2.2.2.2 Try.underlying102 rfl (by kernel_rfl) ?_)
            refine (wexit_any w1.heap.size w1.heap.size B sc mc SA MA x o2 _ HX.out.2.1.1 HX.out.2.1.2 (by omega) HX.out.2.2.2.1 (by omega) HX.out.2.2.2.2.2.2.1 HX.out.2.2.2.2.2.2.2.1).mono ?_
            rintro en w7 ⟨rfl, hW7, hb7, hk7⟩
            have hbl7 : Below w1.heap.size w1 w7 := hbla.trans hb7
            have hOX7 := own_keep HX.out.2.2.2.2.1 hk7 (by decide) (fun e => by
              obtain ⟨A9, d9, g9, -, -⟩ := HX.out.2.2.2.1
              exact own_ne_ty HX.out.2.2.2.2.1 g9 (by decide) e)
            have heq : o2 ++ Ord.bys (Ord.numsB (Ord.exitNums x)) = o4 ++ Ord.bys (Ord.numsB (((c.exits ++ [c.turn, c.back]).take (j + 1)).flatMap Ord.exitNums)) := by
              rw [HX.out.1, HX.out.2.2.1, Ord.bys_nums, List.append_assoc]
            have hl7 : (o2 ++ Ord.bys (Ord.numsB (Ord.exitNums x))).length ≤ 130010 + (j + 1) * 700000 := by
              rw [List.length_append]
              have h1 := Ord.nums_bound HX.out.2.2.2.2.2.1.1
              have h2 := HX.out.2.2.2.2.2.1.2
              omega
            have H7 := Lib.hid (And.intro heq (And.intro hW7 (And.intro hOX7 hl7))); clear heq hW7 hk7 hl7 hOX7
            go_wp2_with fail
            go_roundg (nx - (j + 1))
            case measure => omega
            case rel => exact ⟨j + 1, _, by omega, rfl, by go_num, H7.out.2.2.2, ⟨H7.out.1, H7.out.2.1, H7.out.2.2.1⟩, hbl7⟩
          · obtain ⟨k1, k2, k3⟩ := hkeep.out
            rw [List.take_of_length_le (by rw [HXL.out]; omega)] at k1
            have heq : o2 = Ord.bys (Ord.numsB (Ord.codeNums c)) := by
              rw [k1, ← H5.out.2.2, H3.out.1]
              simp only [← Ord.bys_nums]
              rfl
            obtain ⟨A9, d9, g9, w9, -⟩ := k2
            have a0 := g9.cell 0 (v := .slice A9 o2.length d9) rfl
            have ltR := g9.lt
            have HF := Lib.hid (And.intro heq w9); clear heq k1 k3 g9 w9 hkeep
            go_wp2_with fail
            rw [HP.out.1]
            exact ⟨hbwj, .inl ⟨H1.out.2.2.2, A9, d9, by rw [← HF.out.1]; rfl, by rw [← HF.out.1]; exact HF.out.2.base_le (by omega)⟩⟩

end Go.Proofs.Ytljdnadejmkaeaa

/- The reference's bytes: Num, nums. -/
namespace Go.Proofs.Ytljdnadejmkaeaa
open Go.RowKit

set_option maxHeartbeats 1600000 in
set_option maxRecDepth 100000 in
theorem rnum_any (x : Int) (w : World) (hx : I64 x) : Calls Try.prog 137 #[.int .i64 x] w fun e w' => ∃ (A : Option Addr) (c : Nat), e = .returned (.slice A (Ord.bys (Ord.numB x)).length c) ∧ Own w' w.heap.size 5 A c (Ord.bys (Ord.numB x)) ∧ Below w.heap.size w w' := by
  obtain ⟨i0, hi, hz0, hz1, hz2⟩ := info_parts infoU8
  have hcv : IntKind.u64.wrap x = x % 18446744073709551616 := IntKind.wrap_u64 x
  have hu64 := Ord.zig_lt hx
  have hx2 : -9223372036854775808 ≤ x ∧ x ≤ 9223372036854775807 := hx
  obtain ⟨u0, hu0⟩ : ∃ u0, Ord.zig x = u0 := ⟨_, rfl⟩
  have hv10 := Ord.vb_len10 hu64
  have hnb : Ord.numB x = Ord.vb u0 := by unfold Ord.numB; rw [hu0]
  rw [hnb]
  rw [hu0] at hu64 hv10
  have hzn : x < 0 → -(x + 1) * 2 + 1 = (u0 : Int) := fun h => by rw [← hu0]; unfold Ord.zig; rw [if_neg (by omega)]; omega
  have hzp : 0 ≤ x → x % 18446744073709551616 * 2 = (u0 : Int) := fun h => by rw [← hu0]; unfold Ord.zig; rw [if_pos h]; omega
  have HZ := Lib.hid (And.intro hzn hzp); clear hzn hzp hnb hu0 hx
  rcases (by omega : x < 0 ∨ ¬ (x < 0)) with h | h
  · have hneg : x < 0 := h
    clear h
    go_enter Try.func137, Try.ntmps137
    go_wp2_with fail
    go_loopg [3, 4] ((Ord.vb u0).length) (fun gj uv ov wr => ∃ (u : Nat) (d : List Nat) (A2 : Option Addr) (c2 : Nat) (o2 : List U8), u < 18446744073709551616 ∧ gj = (Ord.vb u).length ∧ uv = .int .u64 (u : Int) ∧ ov = .slice A2 o2.length c2 ∧ o2.length + (Ord.vb u).length ≤ 10 ∧ Hid (o2 = Ord.bys d ∧ d ++ Ord.vb u = Ord.vb u0 ∧ Own wr w.heap.size 5 A2 c2 o2) ∧ Below w.heap.size w wr)
    case atStart => exact ⟨u0, [], none, 0, [], hu64, rfl, by rw [(HZ.out.1 hneg)], rfl, by simpa using hv10, ⟨rfl, rfl, Own.nil_⟩, Below.refl _ _⟩
    case round =>
      obtain ⟨u, d, A2, c2, o2, hu, rfl, rfl, rfl, ho2, hkeep, hbl⟩ := hrel
      have hsz := hbl.size
      clear hu64 hv10
      obtain ⟨q1, q2, q3⟩ := hkeep.out
      by_cases h128 : u < 128
      · have hlt8 : ¬ (127 : Int) < (u : Int) := by omega
        have hw8 : IntKind.u8.wrap (u : Int) = (u : Int) := by rw [IntKind.wrap_u8]; omega
        have hvb : Ord.vb u = [u] := Ord.vb_lt h128
        rw [hvb] at q2 ho2
        have HQ := Lib.hid (And.intro q1 (And.intro q2 q3)); clear q1 q2 q3 hkeep hvb
        simp only [List.length_singleton] at ho2
        go_wp2_with (at_builtin; go_must (refine wpList_app (α := U8) (m := 1) (B := wr.heap.size + 1) (r := [⟨(u : Int)⟩]) rfl (.tmp 27) (.tmp 30) _ rfl w.heap.size 5 i0 _ 1 Try.underlying105 hi hz0 hz1 hz2 rfl (by decide) u8_one (by rfl) rfl (HQ.out.2.2.alloc _) (by rfl) ?_ rfl (by omega) (by simp only [maxLen]; omega) (by simp; omega) ?_))
        · exact At.built wr _ _ [(⟨(u : Int)⟩ : U8)] rfl (by intro z hz; simp at hz; subst hz; show (0 : Int) ≤ (u : Int) ∧ (u : Int) ≤ 255; omega)
        intro A3 c3 w3 hown3 hgr3 hat3
        have heq : o2 ++ [(⟨(u : Int)⟩ : U8)] = Ord.bys (Ord.vb u0) := by rw [← HQ.out.2.1, HQ.out.1, Ord.bys_append]; simp [Ord.bys]
        have hls : o2.length + 1 = (Ord.bys (Ord.vb u0)).length := by rw [← heq, List.length_append]; rfl
        have hbl3 : Below w.heap.size w w3 := (hbl.alloc hsz _).grown hgr3 (by simp; omega) (fun g hg => (HQ.out.2.2.lt g hg).1)
        have HF := Lib.hid (And.intro heq (And.intro hown3 hls)); clear heq hown3 hls hgr3 hat3
        go_wp2_with fail
        go_ret
        exact ⟨A3, c3, by rw [← HF.out.2.2]; rfl, by rw [← HF.out.1]; exact HF.out.2.1, hbl3⟩
      · have hge8 : (127 : Int) < (u : Int) := by omega
        obtain ⟨y, hy⟩ : ∃ y, u % 128 + 128 = y := ⟨_, rfl⟩
        have hw8 : IntKind.u8.wrap ((u : Int) % 128 + 128) = (y : Int) := by rw [IntKind.wrap_u8]; omega
        have hvb : Ord.vb u = y :: Ord.vb (u / 128) := by rw [Ord.vb_ge h128, hy]
        rw [hvb, List.length_cons] at ho2
        rw [hvb] at q2
        have hyb : y < 256 := by omega
        have hml : (Ord.vb (u / 128)).length < (Ord.vb u).length := by rw [hvb]; simp
        have HQ := Lib.hid (And.intro q1 (And.intro q2 q3)); clear q1 q2 q3 hkeep hvb hy
        have hpos := Ord.vb_pos (u / 128)
        go_wp2_with (at_builtin; go_must (refine wpList_app (α := U8) (m := 1) (B := wr.heap.size + 1) (r := [⟨(y : Int)⟩]) rfl (.tmp 18) (.tmp 23) _ rfl w.heap.size 5 i0 _ 1 Try.underlying105 hi hz0 hz1 hz2 rfl (by decide) u8_one (by rfl) rfl (HQ.out.2.2.alloc _) (by rfl) ?_ rfl (by omega) (by simp only [maxLen]; omega) (by simp; omega) ?_))
        · exact At.built wr _ _ [(⟨(y : Int)⟩ : U8)] rfl (by intro z hz; simp at hz; subst hz; show (0 : Int) ≤ (y : Int) ∧ (y : Int) ≤ 255; omega)
        intro A3 c3 w3 hown3 hgr3 hat3
        have heq : o2 ++ [(⟨(y : Int)⟩ : U8)] = Ord.bys (d ++ [y]) := by rw [HQ.out.1, Ord.bys_append]; simp [Ord.bys]
        have hdd : (d ++ [y]) ++ Ord.vb (u / 128) = Ord.vb u0 := by rw [← HQ.out.2.1]; simp
        have hls : o2.length + 1 = (o2 ++ [(⟨(y : Int)⟩ : U8)]).length := by rw [List.length_append]; rfl
        have hbl3 : Below w.heap.size w w3 := (hbl.alloc hsz _).grown hgr3 (by simp; omega) (fun g hg => (HQ.out.2.2.lt g hg).1)
        have HF := Lib.hid (And.intro heq (And.intro hdd (And.intro hown3 hls))); clear heq hown3 hls hgr3 hat3 hdd
        go_wp2_with fail
        go_roundg ((Ord.vb (u / 128)).length)
        case measure => exact hml
        case rel => exact ⟨u / 128, d ++ [y], A3, c3, o2 ++ [(⟨(y : Int)⟩ : U8)], by omega, rfl, by go_num, by rw [HF.out.2.2.2], by rw [← HF.out.2.2.2]; omega, ⟨HF.out.1, HF.out.2.1, HF.out.2.2.1⟩, hbl3⟩
  rcases (by omega : 0 ≤ x ∨ ¬ (0 ≤ x)) with h | h
  · have hneg : 0 ≤ x := h
    clear h
    go_enter Try.func137, Try.ntmps137
    go_wp2_with fail
    go_loopg [3, 4] ((Ord.vb u0).length) (fun gj uv ov wr => ∃ (u : Nat) (d : List Nat) (A2 : Option Addr) (c2 : Nat) (o2 : List U8), u < 18446744073709551616 ∧ gj = (Ord.vb u).length ∧ uv = .int .u64 (u : Int) ∧ ov = .slice A2 o2.length c2 ∧ o2.length + (Ord.vb u).length ≤ 10 ∧ Hid (o2 = Ord.bys d ∧ d ++ Ord.vb u = Ord.vb u0 ∧ Own wr w.heap.size 5 A2 c2 o2) ∧ Below w.heap.size w wr)
    case atStart => exact ⟨u0, [], none, 0, [], hu64, rfl, by rw [(HZ.out.2 hneg)], rfl, by simpa using hv10, ⟨rfl, rfl, Own.nil_⟩, Below.refl _ _⟩
    case round =>
      obtain ⟨u, d, A2, c2, o2, hu, rfl, rfl, rfl, ho2, hkeep, hbl⟩ := hrel
      have hsz := hbl.size
      clear hu64 hv10
      obtain ⟨q1, q2, q3⟩ := hkeep.out
      by_cases h128 : u < 128
      · have hlt8 : ¬ (127 : Int) < (u : Int) := by omega
        have hw8 : IntKind.u8.wrap (u : Int) = (u : Int) := by rw [IntKind.wrap_u8]; omega
        have hvb : Ord.vb u = [u] := Ord.vb_lt h128
        rw [hvb] at q2 ho2
        have HQ := Lib.hid (And.intro q1 (And.intro q2 q3)); clear q1 q2 q3 hkeep hvb
        simp only [List.length_singleton] at ho2
        go_wp2_with (at_builtin; go_must (refine wpList_app (α := U8) (m := 1) (B := wr.heap.size + 1) (r := [⟨(u : Int)⟩]) rfl (.tmp 27) (.tmp 30) _ rfl w.heap.size 5 i0 _ 1 Try.underlying105 hi hz0 hz1 hz2 rfl (by decide) u8_one (by rfl) rfl (HQ.out.2.2.alloc _) (by rfl) ?_ rfl (by omega) (by simp only [maxLen]; omega) (by simp; omega) ?_))
        · exact At.built wr _ _ [(⟨(u : Int)⟩ : U8)] rfl (by intro z hz; simp at hz; subst hz; show (0 : Int) ≤ (u : Int) ∧ (u : Int) ≤ 255; omega)
        intro A3 c3 w3 hown3 hgr3 hat3
        have heq : o2 ++ [(⟨(u : Int)⟩ : U8)] = Ord.bys (Ord.vb u0) := by rw [← HQ.out.2.1, HQ.out.1, Ord.bys_append]; simp [Ord.bys]
        have hls : o2.length + 1 = (Ord.bys (Ord.vb u0)).length := by rw [← heq, List.length_append]; rfl
        have hbl3 : Below w.heap.size w w3 := (hbl.alloc hsz _).grown hgr3 (by simp; omega) (fun g hg => (HQ.out.2.2.lt g hg).1)
        have HF := Lib.hid (And.intro heq (And.intro hown3 hls)); clear heq hown3 hls hgr3 hat3
        go_wp2_with fail
        go_ret
        exact ⟨A3, c3, by rw [← HF.out.2.2]; rfl, by rw [← HF.out.1]; exact HF.out.2.1, hbl3⟩
      · have hge8 : (127 : Int) < (u : Int) := by omega
        obtain ⟨y, hy⟩ : ∃ y, u % 128 + 128 = y := ⟨_, rfl⟩
        have hw8 : IntKind.u8.wrap ((u : Int) % 128 + 128) = (y : Int) := by rw [IntKind.wrap_u8]; omega
        have hvb : Ord.vb u = y :: Ord.vb (u / 128) := by rw [Ord.vb_ge h128, hy]
        rw [hvb, List.length_cons] at ho2
        rw [hvb] at q2
        have hyb : y < 256 := by omega
        have hml : (Ord.vb (u / 128)).length < (Ord.vb u).length := by rw [hvb]; simp
        have HQ := Lib.hid (And.intro q1 (And.intro q2 q3)); clear q1 q2 q3 hkeep hvb hy
        have hpos := Ord.vb_pos (u / 128)
        go_wp2_with (at_builtin; go_must (refine wpList_app (α := U8) (m := 1) (B := wr.heap.size + 1) (r := [⟨(y : Int)⟩]) rfl (.tmp 18) (.tmp 23) _ rfl w.heap.size 5 i0 _ 1 Try.underlying105 hi hz0 hz1 hz2 rfl (by decide) u8_one (by rfl) rfl (HQ.out.2.2.alloc _) (by rfl) ?_ rfl (by omega) (by simp only [maxLen]; omega) (by simp; omega) ?_))
        · exact At.built wr _ _ [(⟨(y : Int)⟩ : U8)] rfl (by intro z hz; simp at hz; subst hz; show (0 : Int) ≤ (y : Int) ∧ (y : Int) ≤ 255; omega)
        intro A3 c3 w3 hown3 hgr3 hat3
        have heq : o2 ++ [(⟨(y : Int)⟩ : U8)] = Ord.bys (d ++ [y]) := by rw [HQ.out.1, Ord.bys_append]; simp [Ord.bys]
        have hdd : (d ++ [y]) ++ Ord.vb (u / 128) = Ord.vb u0 := by rw [← HQ.out.2.1]; simp
        have hls : o2.length + 1 = (o2 ++ [(⟨(y : Int)⟩ : U8)]).length := by rw [List.length_append]; rfl
        have hbl3 : Below w.heap.size w w3 := (hbl.alloc hsz _).grown hgr3 (by simp; omega) (fun g hg => (HQ.out.2.2.lt g hg).1)
        have HF := Lib.hid (And.intro heq (And.intro hdd (And.intro hown3 hls))); clear heq hown3 hls hgr3 hat3 hdd
        go_wp2_with fail
        go_roundg ((Ord.vb (u / 128)).length)
        case measure => exact hml
        case rel => exact ⟨u / 128, d ++ [y], A3, c3, o2 ++ [(⟨(y : Int)⟩ : U8)], by omega, rfl, by go_num, by rw [HF.out.2.2.2], by rw [← HF.out.2.2.2]; omega, ⟨HF.out.1, HF.out.2.1, HF.out.2.2.1⟩, hbl3⟩
  omega

end Go.Proofs.Ytljdnadejmkaeaa

/- The reference's bytes: nums, an exit. -/
namespace Go.Proofs.Ytljdnadejmkaeaa
open Go.RowKit

/-- bytes of numbers, handed back -/
def NumsPost (l : List Int) (w : World) (e : Ending) (w' : World) : Prop := ∃ (A : Option Addr) (c m : Nat), e = .returned (.slice A m c) ∧ (Ord.bys (Ord.numsB l)).length = m ∧ m ≤ l.length * 10 ∧ Own w' w.heap.size 5 A c (Ord.bys (Ord.numsB l)) ∧ Below w.heap.size w w'
theorem bys_okk (l : List Int) : ∀ x ∈ Ord.bys (Ord.numsB l), Flat.ok x := Ord.bys_ok (Ord.numsB_ok l)

set_option maxHeartbeats 1600000 in
set_option maxRecDepth 100000 in
theorem rnums_any (A : Option Addr) (c B n : Nat) (l : List Int) (w : World) (hn : l.length = n) (h : At w B A l) (hB : B ≤ w.heap.size) (hl : n ≤ 1000000) :
    Calls Try.prog 98 #[.slice A n c] w (NumsPost l w) := by
  obtain ⟨i0, hi, hz0, hz1, hz2⟩ := info_parts infoU8
  have hio := h.ok_
  have H := Lib.hid (And.intro h (And.intro hn hio)); clear h hn hio
  go_enter Try.func98, Try.ntmps98
  go_wp2_with fail
  go_loopg [3, 8] n (fun gk ov iv wr => ∃ (k : Nat) (A2 : Option Addr) (c2 : Nat) (o1 : List U8), k ≤ n ∧ gk = n - k ∧ iv = .int .i64 k ∧ ov = .slice A2 o1.length c2 ∧ o1.length ≤ k * 10 ∧ Hid (o1 = Ord.bys (Ord.numsB (l.take k)) ∧ Own wr w.heap.size 5 A2 c2 o1) ∧ Below w.heap.size w wr)
  case atStart => exact ⟨0, none, 0, [], Nat.zero_le _, rfl, rfl, rfl, Nat.zero_le _, ⟨rfl, Own.nil_⟩, Below.refl _ _⟩
  case round =>
    obtain ⟨k, A2, c2, o1, hk, rfl, rfl, rfl, ho1, hkeep, hbl⟩ := hrel
    have hsz := hbl.size
    by_cases hlt : k < n
    · obtain ⟨b, o, x, rfl, hb, hx, hox, r0⟩ := (H.out.1.below (hbl.mono hB)).int_ (k := k) (by have := H.out.2.1; omega)
      have hsn := Ord.numsB_take hx
      have hnl := Ord.numB_len hox
      have hk0 : (0 : Int) ≤ (k : Int) := by omega
      have hk1 : (k : Int) < (n : Int) := by omega
      obtain ⟨m, hm⟩ : ∃ m, (Ord.bys (Ord.numB x)).length = m := ⟨_, rfl⟩
      have hm10 : m ≤ 10 := by rw [← hm, Ord.bys_length]; exact hnl
      have HX := Lib.hid (And.intro hsn (And.intro hkeep.out (And.intro hm hox))); clear hsn hx hkeep hm hnl hox
      go_wp2_with fail
      refine (rnum_any x wr HX.out.2.2.2).mono ?_
      rintro e w3 ⟨A3, c3, he, ho3, hb3⟩
      rw [HX.out.2.2.1] at he
      subst he
      have hs3 := hb3.size
      have hO := HX.out.2.1.2.fresh hb3
      have hbl3 := hbl.trans (hb3.mono hsz)
      have H3 := Lib.hid (And.intro hO (ho3.at_ (Ord.bys_ok (Ord.numB_ok x)))); clear hO ho3 hb3
      go_wp2_with (at_builtin; go_must (refine wpList_app (α := U8) (m := m) (B := w3.heap.size) (r := Ord.bys (Ord.numB x)) rfl (.tmp 12) (.tmp 14) _ rfl w.heap.size 5 i0 _ 1 Try.underlying105 hi hz0 hz1 hz2 rfl (by decide) u8_one (by rfl) rfl H3.out.1 (by rfl) H3.out.2 HX.out.2.2.1 (by omega) (by simp only [maxLen]; omega) (by omega) ?_))
      intro A4 c4 w4 hown4 hgr4 hat4
      have heq : o1 ++ Ord.bys (Ord.numB x) = Ord.bys (Ord.numsB (l.take (k + 1))) := by rw [HX.out.2.1.1, HX.out.1, Ord.bys_append]
      have hls : o1.length + m = (o1 ++ Ord.bys (Ord.numB x)).length := by rw [List.length_append, HX.out.2.2.1]
      have hbl4 := hbl3.grown hgr4 (by omega) (fun g hg => (H3.out.1.lt g hg).1)
      have H4 := Lib.hid (And.intro heq (And.intro hown4 hls)); clear heq hown4 hls hgr4 hat4
      go_wp2_with fail
      go_roundg (n - (k + 1))
      case measure => omega
      case rel => exact ⟨k + 1, A4, c4, _, by omega, rfl, by go_num, by rw [H4.out.2.2], by rw [← H4.out.2.2]; omega, ⟨H4.out.1, H4.out.2.1⟩, hbl4⟩
    · obtain ⟨k1, k2⟩ := hkeep.out
      rw [List.take_of_length_le (by have := H.out.2.1; omega)] at k1
      have HK := Lib.hid (And.intro k1 k2); clear k1 k2 hkeep
      go_wp2_with fail
      go_ret
      exact ⟨A2, c2, o1.length, rfl, by rw [← HK.out.1], by rw [HK.out.1]; exact Ord.nums_bound H.out.2.2, by rw [← HK.out.1]; exact HK.out.2, hbl⟩

set_option maxRecDepth 100000 in
/-- of a list that was just laid -/
theorem rnums_new (gl n : Nat) (cs : Array Value) (l : List Int) (w : World) (hgl : gl = w.heap.size) (hcs : cs.toList = flat l) (hn : l.length = n) (hok : ∀ x ∈ l, I64 x) (hl : n ≤ 1000000) :
    Calls Try.prog 98 #[.slice (some ⟨gl, 0, none⟩) n n] (w.alloc (.cells cs 3)) (NumsPost l (w.alloc (.cells cs 3))) := by
  subst hgl
  exact rnums_any _ _ (w.heap.size + 1) n l _ hn (At.built w cs 3 l hcs hok) (by simp) hl

set_option maxHeartbeats 6400000 in
set_option maxRecDepth 100000 in
theorem rexit_any (B sc mc : Nat) (SA MA : Option Addr) (x : RE) (w : World) (hs : At w B SA x.sets) (hm : At w B MA x.makes) (hB : B ≤ w.heap.size) (hi : I64 x.at_ ∧ I64 x.steps) (hlg : Ord.large x = false) :
    Calls Try.prog 99 #[.agg #[.int .i64 x.at_, .int .i64 x.steps, .slice SA x.sets.length sc, .slice MA x.makes.length mc]] w (NumsPost (Ord.exitNums x) w) := by
  obtain ⟨P, hP⟩ : ∃ P, NumsPost (Ord.exitNums x) w = P := ⟨_, rfl⟩
  rw [hP]
  obtain ⟨i0, hii, hz0, hz1, hz2⟩ := info_parts infoU8
  obtain ⟨-, hsl, hml, hvl⟩ := Ord.large_no hlg
  have hen := Ord.exitNums_ok hs hm hi hlg
  have HH := Lib.hid (And.intro hs (And.intro hm (And.intro hP.symm (And.intro hvl (And.intro hi hen))))); clear hs hm hP hlg hvl hi hen
  go_enter Try.func99, Try.ntmps99
  go_wp2_with fail
  have hok3 : ∀ z ∈ [x.at_, x.steps, (x.sets.length : Int)], I64 z := by intro z hz; simp at hz; rcases hz with rfl | rfl | rfl; exact HH.out.2.2.2.2.1.1; exact HH.out.2.2.2.2.1.2; unfold I64; omega
  refine (rnums_new (w.heap.size + 1) 3 _ [x.at_, x.steps, (x.sets.length : Int)] (w.alloc (.cells #[.int .i64 x.at_, .int .i64 x.steps, .slice SA x.sets.length sc, .slice MA x.makes.length mc] 102)) (by simp) rfl rfl hok3 (by omega)).mono ?_
  rintro e w1 ⟨A1, d1, m1, rfl, hm1, hm1b, ho1, hb1⟩
  clear hok3
  have hs1 := hb1.size
  simp only [World.size_alloc] at hs1
  have hC1 := ((Blk.new w 102 #[.int .i64 x.at_, .int .i64 x.steps, .slice SA x.sets.length sc, .slice MA x.makes.length mc]).alloc (.cells #[.int .i64 x.at_, .int .i64 x.steps, .int .i64 (x.sets.length : Int)] 3)).fresh hb1
  have hbl1 : Below w.heap.size w w1 := (((Below.refl _ _).alloc (Nat.le_refl _) _).alloc (by simp) _).trans (hb1.mono (by simp; omega))
  have c2 := hC1.cell 2 (v := .slice SA x.sets.length sc) rfl
  have lt1 : w.heap.size < w1.heap.size := by omega
  have hm1c : m1 ≤ 30 := by simpa using hm1b
  have H1 := Lib.hid (And.intro (ho1.base_le (show w.heap.size + 1 ≤ _ by simp)) (And.intro hC1 hm1)); clear ho1 hC1 hm1 hb1 hm1b
  go_wp2_with fail
  clear c2
  go_loopg [3, 22] (x.sets.length) (fun gk ov iv wr => ∃ (k : Nat) (A2 : Option Addr) (c2 : Nat) (o1 : List U8), k ≤ x.sets.length ∧ gk = x.sets.length - k ∧ iv = .int .i64 k ∧ ov = .slice A2 o1.length c2 ∧ o1.length ≤ 30 + k * 30 ∧ Hid (o1 = Ord.bys (Ord.numsB ([x.at_, x.steps, (x.sets.length : Int)] ++ (x.sets.take k).flatMap Ord.setNums)) ∧ Own wr (w.heap.size + 1) 5 A2 c2 o1 ∧ Blk wr w.heap.size 102 #[.int .i64 x.at_, .int .i64 x.steps, .slice SA x.sets.length sc, .slice MA x.makes.length mc]) ∧ Below w.heap.size w wr ∧ w.heap.size + 1 ≤ wr.heap.size)
  case atStart => exact ⟨0, A1, d1, _, Nat.zero_le _, rfl, rfl, by rw [H1.out.2.2], by rw [H1.out.2.2]; omega, ⟨by simp, H1.out.1, H1.out.2.1⟩, hbl1, by omega⟩
  case round =>
    obtain ⟨k, A2, c2, o1, hk, rfl, rfl, rfl, ho1, hkeep, hbl, hsz⟩ := hrel
    by_cases hlt : k < x.sets.length
    · obtain ⟨b, o, a0, a1, a2, rfl, hbB, hx, j0, j1, j2, d0, d1', d2⟩ := (HH.out.1.below (hbl.mono hB)).trip hlt
      have hfs := Ord.fm_take Ord.setNums hx
      have hk0 : (0 : Int) ≤ (k : Int) := by omega
      have hk1 : (k : Int) < (x.sets.length : Int) := by omega
      have hok : ∀ z ∈ Ord.setNums (a0, a1, a2), I64 z := by intro z hz; simp [Ord.setNums] at hz; rcases hz with rfl | rfl | rfl <;> assumption
      have HX := Lib.hid (And.intro hfs (And.intro hok (And.intro hkeep.out.1 (And.intro ((hkeep.out.2.1.alloc (.cells #[.int .i64 a0, .int .i64 a1, .int .i64 a2] 186)).alloc (.cells #[.int .i64 a0, .int .i64 a1, .int .i64 a2] 3)) ((hkeep.out.2.2.alloc (.cells #[.int .i64 a0, .int .i64 a1, .int .i64 a2] 186)).alloc (.cells #[.int .i64 a0, .int .i64 a1, .int .i64 a2] 3)))))); clear hfs hok hkeep hx j0 j1 j2
      go_wp2_with fail
      refine (rnums_new (wr.heap.size + 1) 3 _ (Ord.setNums (a0, a1, a2)) (wr.alloc (.cells #[.int .i64 a0, .int .i64 a1, .int .i64 a2] 186)) (by simp) rfl rfl HX.out.2.1 (by omega)).mono ?_
      rintro e w3 ⟨A3, d3, m3, rfl, hm3, hm3b, ho3, hb3⟩
      have hm3c : m3 ≤ 30 := hm3b
      have hs3 := hb3.size
      simp only [World.size_alloc] at hs3
      have hbl3 : Below w.heap.size w w3 := ((hbl.alloc (by omega) _).alloc (by simp; omega) _).trans (hb3.mono (by simp; omega))
      have H3 := Lib.hid (And.intro (HX.out.2.2.2.1.fresh hb3) (And.intro (HX.out.2.2.2.2.fresh hb3) (And.intro (ho3.at_ (bys_okk _)) hm3))); clear ho3 hb3 hm3 hm3b
      go_wp2_with (at_builtin; go_must (refine wpList_app (α := U8) (m := m3) (B := w3.heap.size) (r := Ord.bys (Ord.numsB (Ord.setNums (a0, a1, a2)))) rfl (.tmp 26) (.tmp 36) _ rfl (w.heap.size + 1) 5 i0 _ 1 Try.underlying105 hii hz0 hz1 hz2 rfl (by decide) u8_one (by rfl) rfl H3.out.1 (by rfl) H3.out.2.2.1 H3.out.2.2.2 (by omega) (by simp only [maxLen]; omega) (by omega) ?_))
      intro A4 c4 w4 hown4 hgr4 hat4
      have heq : o1 ++ Ord.bys (Ord.numsB (Ord.setNums (a0, a1, a2))) = Ord.bys (Ord.numsB ([x.at_, x.steps, (x.sets.length : Int)] ++ (x.sets.take (k + 1)).flatMap Ord.setNums)) := by
        rw [HX.out.2.2.1, HX.out.1, ← Ord.bys_nums, List.append_assoc]
      have hls : o1.length + m3 = (o1 ++ Ord.bys (Ord.numsB (Ord.setNums (a0, a1, a2)))).length := by rw [List.length_append, H3.out.2.2.2]
      have hbl4 := hbl3.grown hgr4 (by omega) (fun g hg => by have := (H3.out.1.lt g hg).1; omega)
      have hC4 := H3.out.2.1.grown hgr4 (own_ne_ty H3.out.1 H3.out.2.1 (by decide))
      have hs4 : w.heap.size + 1 ≤ w4.heap.size := hC4.lt
      have H4 := Lib.hid (And.intro heq (And.intro hown4 (And.intro hC4 hls))); clear heq hown4 hls hgr4 hat4 hC4
      go_wp2_with fail
      go_roundg (x.sets.length - (k + 1))
      case measure => omega
      case rel => exact ⟨k + 1, A4, c4, _, by omega, rfl, by go_num, by rw [H4.out.2.2.2], by rw [← H4.out.2.2.2]; omega, ⟨H4.out.1, H4.out.2.1, H4.out.2.2.1⟩, hbl4, hs4⟩
    · have hk2 := hkeep.out
      rw [List.take_of_length_le (by omega)] at hk2
      have c3 := hk2.2.2.cell 3 (v := .slice MA x.makes.length mc) rfl
      have H2 := Lib.hid (And.intro hk2.1 (And.intro (hk2.2.1.alloc (.cells #[.int .i64 (x.makes.length : Int)] 3)) (hk2.2.2.alloc (.cells #[.int .i64 (x.makes.length : Int)] 3)))); clear hk2 hkeep
      have ho1' : o1.length ≤ 1830 := by omega
      clear ho1
      go_wp2_with fail
      refine (rnums_new wr.heap.size 1 _ [(x.makes.length : Int)] wr rfl rfl rfl (by intro z hz; simp at hz; subst hz; unfold I64; omega) (by omega)).mono ?_
      rintro e w3 ⟨A3, d3, m3, rfl, hm3, hm3b, ho3, hb3⟩
      have hm3c : m3 ≤ 10 := hm3b
      have hs3 := hb3.size
      simp only [World.size_alloc] at hs3
      have hbl3 : Below w.heap.size w w3 := (hbl.alloc (by omega) _).trans (hb3.mono (by simp; omega))
      have H3 := Lib.hid (And.intro (H2.out.2.1.fresh hb3) (And.intro (H2.out.2.2.fresh hb3) (And.intro (ho3.at_ (bys_okk _)) hm3))); clear ho3 hb3 hm3 hm3b c3
      go_wp2_with (at_builtin; go_must (refine wpList_app (α := U8) (m := m3) (B := w3.heap.size) (r := Ord.bys (Ord.numsB [(x.makes.length : Int)])) rfl (.tmp 39) (.tmp 44) _ rfl (w.heap.size + 1) 5 i0 _ 1 Try.underlying105 hii hz0 hz1 hz2 rfl (by decide) u8_one (by rfl) rfl H3.out.1 (by rfl) H3.out.2.2.1 H3.out.2.2.2 (by omega) (by simp only [maxLen]; omega) (by omega) ?_))
      intro A4 c4 w4 hown4 hgr4 hat4
      have hls : o1.length + m3 = (o1 ++ Ord.bys (Ord.numsB [(x.makes.length : Int)])).length := by rw [List.length_append, H3.out.2.2.2]
      have hbl4 := hbl3.grown hgr4 (by omega) (fun g hg => by have := (H3.out.1.lt g hg).1; omega)
      have hC4 := H3.out.2.1.grown hgr4 (own_ne_ty H3.out.1 H3.out.2.1 (by decide))
      have hs4 : w.heap.size + 1 ≤ w4.heap.size := hC4.lt
      have c3' := hC4.cell 3 (v := .slice MA x.makes.length mc) rfl
      have ltw4 : w.heap.size < w4.heap.size := by omega
      obtain ⟨o4, ho4⟩ : ∃ o4, o1 ++ Ord.bys (Ord.numsB [(x.makes.length : Int)]) = o4 := ⟨_, rfl⟩
      rw [ho4] at hown4 hls
      have ho4l : o4.length ≤ 1840 := by omega
      have ho4e : o4 = Ord.bys (Ord.numsB (([x.at_, x.steps, (x.sets.length : Int)] ++ x.sets.flatMap Ord.setNums) ++ [(x.makes.length : Int)])) := by rw [← ho4, H2.out.1, ← Ord.bys_nums]
      have H4 := Lib.hid (And.intro hown4 (And.intro hls ho4e)); clear hown4 hls hgr4 hat4 hC4 ho4 ho4e
      go_wp2_with fail
      clear c3'
      go_loopg [3, 49] (x.makes.length) (fun gj ov jv wj => ∃ (j : Nat) (A2 : Option Addr) (c2 : Nat) (o2 : List U8), j ≤ x.makes.length ∧ gj = x.makes.length - j ∧ jv = .int .i64 j ∧ ov = .slice A2 o2.length c2 ∧ o2.length ≤ 1840 + j * 2050 ∧ Hid (o2 = o4 ++ Ord.bys (Ord.numsB ((x.makes.take j).flatMap Ord.makeNums)) ∧ Own wj (w.heap.size + 1) 5 A2 c2 o2) ∧ Below w.heap.size w wj ∧ w.heap.size + 1 ≤ wj.heap.size)
      case atStart => exact ⟨0, A4, c4, o4, Nat.zero_le _, rfl, rfl, by rw [H4.out.2.1], by omega, ⟨by simp [Ord.numsB, Ord.bys], H4.out.1⟩, hbl4, hs4⟩
      case round =>
        obtain ⟨j, A2, c2, o2, hj, rfl, rfl, rfl, ho2, hkeep, hblj, hsj⟩ := hrel
        by_cases hjt : j < x.makes.length
        · obtain ⟨b, o, m, VA, vc, rfl, hbB, hx, q0, q1, q2, q3, q4, av, hvc, j0, j1, j2, j3⟩ := (HH.out.2.1.below (hblj.mono hB)).rM_ hjt
          have hm100 := HH.out.2.2.2.1 m (List.mem_of_getElem? hx)
          obtain ⟨⟨m0, m1'⟩, mk, mn, vals⟩ := m
          simp only at q0 q1 q2 q3 q4 av hvc j0 j1 j2 j3 hm100
          have hfs := Ord.fm_take Ord.makeNums hx
          have hj0 : (0 : Int) ≤ (j : Int) := by omega
          have hj1 : (j : Int) < (x.makes.length : Int) := by omega
          have hok : ∀ z ∈ [m0, m1', mk, mn, (vals.length : Int)], I64 z := by intro z hz; simp at hz; rcases hz with rfl | rfl | rfl | rfl | rfl; exact j0; exact j1; exact j2; exact j3; unfold I64; omega
          obtain ⟨F, hF⟩ : ∃ F : Array Value, F = #[.int .i64 m0, .int .i64 m1', .int .i64 mk, .int .i64 mn, .slice VA vals.length vc] := ⟨_, rfl⟩
          have hFB := (Blk.new wr 189 F).alloc (.cells #[.int .i64 m0, .int .i64 m1', .int .i64 mk, .int .i64 mn, .int .i64 (vals.length : Int)] 3)
          have hOa := (hkeep.out.2.alloc (.cells F 189)).alloc (.cells #[.int .i64 m0, .int .i64 m1', .int .i64 mk, .int .i64 mn, .int .i64 (vals.length : Int)] 3)
          rw [hF] at hFB hOa
          have HX := Lib.hid (And.intro hfs (And.intro hok (And.intro hFB (And.intro hkeep.out.1 (And.intro hOa av))))); clear hfs j0 j1 j2 j3 hFB hkeep hx hOa av hF F hvc hok
          go_wp2_with fail
          refine (rnums_new (wr.heap.size + 1) 5 _ [m0, m1', mk, mn, (vals.length : Int)] (wr.alloc (.cells #[.int .i64 m0, .int .i64 m1', .int .i64 mk, .int .i64 mn, .slice VA vals.length vc] 189)) (by simp) rfl rfl HX.out.2.1 (by omega)).mono ?_
          rintro e w5 ⟨A5, d5, m5, rfl, hm5, hm5b, ho5, hb5⟩
          have hm5c : m5 ≤ 50 := hm5b
          have hs5 := hb5.size
          simp only [World.size_alloc] at hs5
          have hbl5 : Below w.heap.size w w5 := ((hblj.alloc (by omega) _).alloc (by simp; omega) _).trans (hb5.mono (by simp; omega))
          have hbw5 : Below wr.heap.size wr w5 := (((Below.refl _ _).alloc (Nat.le_refl _) _).alloc (by simp) _).trans (hb5.mono (by simp; omega))
          have H5 := Lib.hid (And.intro (HX.out.2.2.2.2.1.fresh hb5) (And.intro (HX.out.2.2.1.fresh hb5) (And.intro (ho5.at_ (bys_okk _)) hm5))); clear ho5 hb5 hm5 hm5b
          go_wp2_with (at_builtin; go_must (refine wpList_app (α := U8) (m := m5) (B := w5.heap.size) (r := Ord.bys (Ord.numsB [m0, m1', mk, mn, (vals.length : Int)])) rfl (.tmp 53) (.tmp 68) _ rfl (w.heap.size + 1) 5 i0 _ 1 Try.underlying105 hii hz0 hz1 hz2 rfl (by decide) u8_one (by rfl) rfl H5.out.1 (by rfl) H5.out.2.2.1 H5.out.2.2.2 (by omega) (by simp only [maxLen]; omega) (by omega) ?_))
          intro A6 c6 w6 hown6 hgr6 hat6
          have hls : o2.length + m5 = (o2 ++ Ord.bys (Ord.numsB [m0, m1', mk, mn, (vals.length : Int)])).length := by rw [List.length_append, H5.out.2.2.2]
          have hbl6 := hbl5.grown hgr6 (by omega) (fun g hg => by have := (H5.out.1.lt g hg).1; omega)
          have hbw6 : Below (w.heap.size + 1) wr w6 := (hbw5.mono hsj).grown hgr6 (by omega) (fun g hg => (H5.out.1.lt g hg).1)
          have hC6 := H5.out.2.1.grown hgr6 (own_ne_ty H5.out.1 H5.out.2.1 (by decide))
          have p4 := hC6.cell 4 (v := .slice VA vals.length vc) rfl
          have hs6 := hC6.lt
          obtain ⟨o6, ho6⟩ : ∃ o6, o2 ++ Ord.bys (Ord.numsB [m0, m1', mk, mn, (vals.length : Int)]) = o6 := ⟨_, rfl⟩
          rw [ho6] at hown6 hls
          have ho6l : o6.length ≤ o2.length + 50 := by omega
          have H6 := Lib.hid (And.intro hown6 (And.intro hls ho6)); clear hown6 hgr6 hat6 hC6 ho6 hls
          have hsw6 : w.heap.size + 1 ≤ w6.heap.size := by omega
          obtain ⟨wo, rfl⟩ : ∃ wo : World, wo = wr := ⟨_, rfl⟩
          go_wp2_with fail
          clear p4
          go_loopg [3, 73] (vals.length) (fun gi ov vv wi => ∃ (i : Nat) (A2 : Option Addr) (c2 : Nat) (o3 : List U8), i ≤ vals.length ∧ gi = vals.length - i ∧ vv = .int .i64 i ∧ ov = .slice A2 o3.length c2 ∧ o3.length ≤ o2.length + 50 + i * 20 ∧ Hid (o3 = o6 ++ Ord.bys (Ord.numsB ((vals.take i).flatMap fun v => [v.1, v.2])) ∧ Own wi (w.heap.size + 1) 5 A2 c2 o3) ∧ Below w.heap.size w wi ∧ Below (w.heap.size + 1) wo wi ∧ w.heap.size + 1 ≤ wi.heap.size)
          case atStart => exact ⟨0, A6, c6, o6, Nat.zero_le _, rfl, rfl, by rw [H6.out.2.1], by omega, ⟨by simp [Ord.numsB, Ord.bys], H6.out.1⟩, hbl6, hbw6, hsw6⟩
          case round =>
            obtain ⟨i, A7, c7, o3, hi3, rfl, rfl, rfl, ho3, hkeep, hbli, hbwi, hsi⟩ := hrel
            by_cases hit : i < vals.length
            · obtain ⟨b', o', u, v, rfl, hb', hx, hou, hov, e0, e1⟩ := (HX.out.2.2.2.2.2.below (hbwi.mono (by omega))).pair hit
              have hfs := Ord.fm_take (fun v : Int × Int => [v.1, v.2]) hx
              have hi0 : (0 : Int) ≤ (i : Int) := by omega
              have hi1 : (i : Int) < (vals.length : Int) := by omega
              have HT := Lib.hid (And.intro hfs (And.intro ((hkeep.out.2.alloc (.cells #[.int .i64 u, .int .i64 v] 90)).alloc (.cells #[.int .i64 u, .int .i64 v] 3)) (And.intro hkeep.out.1 (And.intro hou hov)))); clear hfs hx hou hov hkeep
              go_wp2_with fail
              refine (rnums_new (wr.heap.size + 1) 2 _ [u, v] (wr.alloc (.cells #[.int .i64 u, .int .i64 v] 90)) (by simp) rfl rfl (by intro z hz; simp at hz; rcases hz with rfl | rfl; exact HT.out.2.2.2.1; exact HT.out.2.2.2.2) (by omega)).mono ?_
              rintro e w7 ⟨A8, d8, m8, rfl, hm8, hm8b, ho8, hb8⟩
              have hm8c : m8 ≤ 20 := hm8b
              have hs8 := hb8.size
              simp only [World.size_alloc] at hs8
              have hbl8 : Below w.heap.size w w7 := ((hbli.alloc (by omega) _).alloc (by simp; omega) _).trans (hb8.mono (by simp; omega))
              have hbw8 : Below (w.heap.size + 1) wo w7 := ((hbwi.alloc (by omega) _).alloc (by simp; omega) _).trans (hb8.mono (by simp; omega))
              have H8 := Lib.hid (And.intro (HT.out.2.1.fresh hb8) (And.intro (ho8.at_ (bys_okk _)) hm8)); clear ho8 hb8 hm8 hm8b
              go_wp2_with (at_builtin; go_must (refine wpList_app (α := U8) (m := m8) (B := w7.heap.size) (r := Ord.bys (Ord.numsB [u, v])) rfl (.tmp 77) (.tmp 83) _ rfl (w.heap.size + 1) 5 i0 _ 1 Try.underlying105 hii hz0 hz1 hz2 rfl (by decide) u8_one (by rfl) rfl H8.out.1 (by rfl) H8.out.2.1 H8.out.2.2 (by omega) (by simp only [maxLen]; omega) (by omega) ?_))
              intro A9 c9 w9 hown9 hgr9 hat9
              have hls : o3.length + m8 = (o3 ++ Ord.bys (Ord.numsB [u, v])).length := by rw [List.length_append, H8.out.2.2]
              have hbl9 := hbl8.grown hgr9 (by omega) (fun g hg => by have := (H8.out.1.lt g hg).1; omega)
              have hbw9 := hbw8.grown hgr9 (by omega) (fun g hg => (H8.out.1.lt g hg).1)
              have hs9 : w.heap.size + 1 ≤ w9.heap.size := by have := hgr9.size; omega
              have heq : o3 ++ Ord.bys (Ord.numsB [u, v]) = o6 ++ Ord.bys (Ord.numsB ((vals.take (i + 1)).flatMap fun v => [v.1, v.2])) := by
                rw [HT.out.1, Ord.bys_nums, ← List.append_assoc, ← HT.out.2.2.1]
              have H9 := Lib.hid (And.intro heq (And.intro hown9 hls)); clear heq hown9 hls hgr9 hat9
              go_wp2_with fail
              go_roundg (vals.length - (i + 1))
              case measure => omega
              case rel => exact ⟨i + 1, A9, c9, _, by omega, rfl, by go_num, by rw [H9.out.2.2], by rw [← H9.out.2.2]; omega, ⟨H9.out.1, H9.out.2.1⟩, hbl9, hbw9, hs9⟩
            · obtain ⟨k1, k2⟩ := hkeep.out
              rw [List.take_of_length_le (by omega)] at k1
              have heq : o3 = o4 ++ Ord.bys (Ord.numsB ((x.makes.take (j + 1)).flatMap Ord.makeNums)) := by
                rw [HX.out.1, k1, ← H6.out.2.2, HX.out.2.2.2.1, Ord.bys_nums]
                simp only [List.append_assoc, ← Ord.bys_nums]
                rfl
              have hl7 : o3.length ≤ 1840 + (j + 1) * 2050 := by omega
              have H7 := Lib.hid (And.intro heq (And.intro k2 hl7)); clear heq k1 k2 hl7 hkeep
              go_wp2_with fail
              go_roundg (x.makes.length - (j + 1))
              case measure => omega
              case rel => exact ⟨j + 1, A7, c7, _, by omega, rfl, by go_num, rfl, H7.out.2.2, ⟨H7.out.1, H7.out.2.1⟩, hbli, hsi⟩
        · obtain ⟨k1, k2⟩ := hkeep.out
          rw [List.take_of_length_le (by omega)] at k1
          have heq : o2 = Ord.bys (Ord.numsB (Ord.exitNums x)) := by
            rw [k1, H4.out.2.2]
            simp only [← Ord.bys_nums]
            rfl
          have H7 := Lib.hid (And.intro heq k2); clear heq k1 k2 hkeep
          go_wp2_with fail
          rw [HH.out.2.2.1]
          exact ⟨A2, c2, o2.length, rfl, by rw [← H7.out.1], by rw [H7.out.1]; exact Ord.nums_bound HH.out.2.2.2.2.2.1, by rw [← H7.out.1]; exact H7.out.2.base_le (by omega), hblj⟩

end Go.Proofs.Ytljdnadejmkaeaa

/- The reference's bytes of code. -/
namespace Go.Proofs.Ytljdnadejmkaeaa
open Go.RowKit
attribute [local go_sem ↓] Go.wp_at_zero Go.wp_at_succ

set_option maxHeartbeats 6400000 in
set_option maxRecDepth 100000 in
theorem rcode_any (B oc ec tsc tmc bsc bmc : Nat) (OA EA TS TM BS BM : Option Addr) (c : RC) (w : World) (h : CdAt w B c OA EA TS TM BS BM tsc tmc bsc bmc) (hB : B ≤ w.heap.size) (hnl : Ord.tooLarge c = false) (hci : I64 c.fn ∧ I64 c.at_ ∧ I64 c.loop ∧ I64 c.slots) :
    Calls Try.prog 46 #[.agg #[.int .i64 c.fn, .int .i64 c.at_, .int .i64 c.loop, .int .i64 c.slots, .slice OA c.orders.length oc, .slice EA c.exits.length ec, .int .i64 c.turn.at_, .int .i64 c.turn.steps, .slice TS c.turn.sets.length tsc, .slice TM c.turn.makes.length tmc, .int .i64 c.back.at_, .int .i64 c.back.steps, .slice BS c.back.sets.length bsc, .slice BM c.back.makes.length bmc]] w fun e w' => ∃ (A : Option Addr) (d m : Nat), e = .returned (.slice A m d) ∧ (Ord.bys (Ord.numsB (Ord.codeNums c))).length = m ∧ Own w' w.heap.size 5 A d (Ord.bys (Ord.numsB (Ord.codeNums c))) ∧ Below w.heap.size w w' := by
  obtain ⟨i0, hii, hz0, hz1, hz2⟩ := info_parts infoU8
  obtain ⟨hol2, hel2⟩ := Ord.notLarge hnl
  have HL := Lib.hid (Ord.large_all hnl); clear hnl
  have hok5 : ∀ z ∈ [c.fn, c.at_, c.loop, c.slots, (c.orders.length : Int)], I64 z := by
    obtain ⟨j0, j1, j2, j3⟩ := hci
    intro z hz; simp at hz; rcases hz with rfl | rfl | rfl | rfl | rfl
    · exact j0
    · exact j1
    · exact j2
    · exact j3
    · unfold I64; omega
  have H := Lib.hid (And.intro h hok5); clear h hci hok5
  go_enter Try.func46, Try.ntmps46
  go_wp2_with fail
  refine (rnums_new (w.heap.size + 1) 5 _ [c.fn, c.at_, c.loop, c.slots, (c.orders.length : Int)] (w.alloc (.cells #[.int .i64 c.fn, .int .i64 c.at_, .int .i64 c.loop, .int .i64 c.slots, .slice OA c.orders.length oc, .slice EA c.exits.length ec, .int .i64 c.turn.at_, .int .i64 c.turn.steps, .slice TS c.turn.sets.length tsc, .slice TM c.turn.makes.length tmc, .int .i64 c.back.at_, .int .i64 c.back.steps, .slice BS c.back.sets.length bsc, .slice BM c.back.makes.length bmc] 104)) (by simp) rfl rfl H.out.2 (by omega)).mono ?_
  rintro e w1 ⟨A1, d1, m1, rfl, hm1, hm1b, ho1, hb1⟩
  have hs1 := hb1.size
  simp only [World.size_alloc] at hs1
  have hC1 := ((Blk.new w 104 #[.int .i64 c.fn, .int .i64 c.at_, .int .i64 c.loop, .int .i64 c.slots, .slice OA c.orders.length oc, .slice EA c.exits.length ec, .int .i64 c.turn.at_, .int .i64 c.turn.steps, .slice TS c.turn.sets.length tsc, .slice TM c.turn.makes.length tmc, .int .i64 c.back.at_, .int .i64 c.back.steps, .slice BS c.back.sets.length bsc, .slice BM c.back.makes.length bmc]).alloc (.cells #[.int .i64 c.fn, .int .i64 c.at_, .int .i64 c.loop, .int .i64 c.slots, .int .i64 (c.orders.length : Int)] 3)).fresh hb1
  have hbl1 : Below w.heap.size w w1 := (((Below.refl _ _).alloc (Nat.le_refl _) _).alloc (by simp) _).trans (hb1.mono (by simp; omega))
  have c4 := hC1.cell 4 (v := .slice OA c.orders.length oc) rfl
  have lt1 : w.heap.size < w1.heap.size := by omega
  have hm1c : m1 ≤ 50 := by simpa using hm1b
  have H1 := Lib.hid (And.intro (ho1.base_le (show w.heap.size + 1 ≤ _ by simp)) (And.intro hC1 hm1)); clear ho1 hC1 hm1 hb1 hm1b
  go_wp2_with fail
  clear c4
  go_loopg [3, 24] (c.orders.length) (fun gk ov iv wr => ∃ (k : Nat) (A2 : Option Addr) (c2 : Nat) (o1 : List U8), k ≤ c.orders.length ∧ gk = c.orders.length - k ∧ iv = .int .i64 k ∧ ov = .slice A2 o1.length c2 ∧ o1.length ≤ 50 + k * 80 ∧ Hid (o1 = Ord.bys (Ord.numsB ([c.fn, c.at_, c.loop, c.slots, (c.orders.length : Int)] ++ (c.orders.take k).flatMap Ord.orderNums)) ∧ Own wr (w.heap.size + 1) 5 A2 c2 o1 ∧ Blk wr w.heap.size 104 #[.int .i64 c.fn, .int .i64 c.at_, .int .i64 c.loop, .int .i64 c.slots, .slice OA c.orders.length oc, .slice EA c.exits.length ec, .int .i64 c.turn.at_, .int .i64 c.turn.steps, .slice TS c.turn.sets.length tsc, .slice TM c.turn.makes.length tmc, .int .i64 c.back.at_, .int .i64 c.back.steps, .slice BS c.back.sets.length bsc, .slice BM c.back.makes.length bmc]) ∧ Below w.heap.size w wr ∧ w.heap.size + 1 ≤ wr.heap.size)
  case atStart => exact ⟨0, A1, d1, _, Nat.zero_le _, rfl, rfl, by rw [H1.out.2.2], by rw [H1.out.2.2]; omega, ⟨by simp, H1.out.1, H1.out.2.1⟩, hbl1, by omega⟩
  case round =>
    obtain ⟨k, A2, c2, o1, hk, rfl, rfl, rfl, ho1, hkeep, hbl, hsz⟩ := hrel
    by_cases hlt : k < c.orders.length
    · obtain ⟨b, o, x, rfl, hbB, hx, q0, q1, q2, q3, q4, q5, q6, q7, j0, j1, j2, j3, j4, j5, j6, j7⟩ := (H.out.1.1.below (hbl.mono hB)).rO_ hlt
      have hfs := Ord.fm_take Ord.orderNums hx
      have hk0 : (0 : Int) ≤ (k : Int) := by omega
      have hk1 : (k : Int) < (c.orders.length : Int) := by omega
      have hok : ∀ z ∈ Ord.orderNums x, I64 z := by
        intro z hz; simp [Ord.orderNums] at hz; rcases hz with rfl | rfl | rfl | rfl | rfl | rfl | rfl | rfl <;> assumption
      have HX := Lib.hid (And.intro hfs (And.intro hok (And.intro hkeep.out.1 (And.intro ((hkeep.out.2.1.alloc (.cells #[.int .i64 x.op, .int .i64 x.a, .int .i64 x.b, .int .i64 x.c, .int .i64 x.n, .int .i64 x.exit, .int .i64 x.k.1, .int .i64 x.k.2] 146)).alloc (.cells #[.int .i64 x.op, .int .i64 x.a, .int .i64 x.b, .int .i64 x.c, .int .i64 x.n, .int .i64 x.exit, .int .i64 x.k.1, .int .i64 x.k.2] 3)) ((hkeep.out.2.2.alloc (.cells #[.int .i64 x.op, .int .i64 x.a, .int .i64 x.b, .int .i64 x.c, .int .i64 x.n, .int .i64 x.exit, .int .i64 x.k.1, .int .i64 x.k.2] 146)).alloc (.cells #[.int .i64 x.op, .int .i64 x.a, .int .i64 x.b, .int .i64 x.c, .int .i64 x.n, .int .i64 x.exit, .int .i64 x.k.1, .int .i64 x.k.2] 3)))))); clear hfs hok hkeep hx j0 j1 j2 j3 j4 j5 j6 j7
      go_wp2_with fail
      refine (rnums_new (wr.heap.size + 1) 8 _ (Ord.orderNums x) (wr.alloc (.cells #[.int .i64 x.op, .int .i64 x.a, .int .i64 x.b, .int .i64 x.c, .int .i64 x.n, .int .i64 x.exit, .int .i64 x.k.1, .int .i64 x.k.2] 146)) (by simp) rfl rfl HX.out.2.1 (by omega)).mono ?_
      rintro e w3 ⟨A3, d3, m3, rfl, hm3, hm3b, ho3, hb3⟩
      have hm3c : m3 ≤ 80 := hm3b
      have hs3 := hb3.size
      simp only [World.size_alloc] at hs3
      have hbl3 : Below w.heap.size w w3 := ((hbl.alloc (by omega) _).alloc (by simp; omega) _).trans (hb3.mono (by simp; omega))
      have H3 := Lib.hid (And.intro (HX.out.2.2.2.1.fresh hb3) (And.intro (HX.out.2.2.2.2.fresh hb3) (And.intro (ho3.at_ (bys_okk _)) hm3))); clear ho3 hb3 hm3 hm3b
      go_wp2_with (at_builtin; go_must (refine wpList_app (α := U8) (m := m3) (B := w3.heap.size) (r := Ord.bys (Ord.numsB (Ord.orderNums x))) rfl (.tmp 28) (.tmp 48) _ rfl (w.heap.size + 1) 5 i0 _ 1 Try.underlying105 hii hz0 hz1 hz2 rfl (by decide) u8_one (by rfl) rfl H3.out.1 (by rfl) H3.out.2.2.1 H3.out.2.2.2 (by omega) (by simp only [maxLen]; omega) (by omega) ?_))
      intro A4 c4 w4 hown4 hgr4 hat4
      have heq : o1 ++ Ord.bys (Ord.numsB (Ord.orderNums x)) = Ord.bys (Ord.numsB ([c.fn, c.at_, c.loop, c.slots, (c.orders.length : Int)] ++ (c.orders.take (k + 1)).flatMap Ord.orderNums)) := by
        rw [HX.out.2.2.1, HX.out.1, ← Ord.bys_nums, List.append_assoc]
      have hls : o1.length + m3 = (o1 ++ Ord.bys (Ord.numsB (Ord.orderNums x))).length := by rw [List.length_append, H3.out.2.2.2]
      have hbl4 := hbl3.grown hgr4 (by omega) (fun g hg => by have := (H3.out.1.lt g hg).1; omega)
      have hC4 := H3.out.2.1.grown hgr4 (own_ne_ty H3.out.1 H3.out.2.1 (by decide))
      have hs4 : w.heap.size + 1 ≤ w4.heap.size := hC4.lt
      have H4 := Lib.hid (And.intro heq (And.intro hown4 (And.intro hC4 hls))); clear heq hown4 hls hgr4 hat4 hC4
      go_wp2_with fail
      go_roundg (c.orders.length - (k + 1))
      case measure => omega
      case rel => exact ⟨k + 1, A4, c4, _, by omega, rfl, by go_num, by rw [H4.out.2.2.2], by rw [← H4.out.2.2.2]; omega, ⟨H4.out.1, H4.out.2.1, H4.out.2.2.1⟩, hbl4, hs4⟩
    · have hk2 := hkeep.out
      rw [List.take_of_length_le (by omega)] at hk2
      have c5 := hk2.2.2.cell 5 (v := .slice EA c.exits.length ec) rfl
      have H2 := Lib.hid (And.intro hk2.1 (And.intro (hk2.2.1.alloc (.cells #[.int .i64 (c.exits.length : Int)] 3)) (hk2.2.2.alloc (.cells #[.int .i64 (c.exits.length : Int)] 3)))); clear hk2 hkeep
      have ho1' : o1.length ≤ 130000 := by omega
      clear ho1
      go_wp2_with fail
      refine (rnums_new wr.heap.size 1 _ [(c.exits.length : Int)] wr rfl rfl rfl (by intro z hz; simp at hz; subst hz; unfold I64; omega) (by omega)).mono ?_
      rintro e w3 ⟨A3, d3, m3, rfl, hm3, hm3b, ho3, hb3⟩
      have hm3c : m3 ≤ 10 := hm3b
      have hs3 := hb3.size
      simp only [World.size_alloc] at hs3
      have hbl3 : Below w.heap.size w w3 := (hbl.alloc (by omega) _).trans (hb3.mono (by simp; omega))
      have H3 := Lib.hid (And.intro (H2.out.2.1.fresh hb3) (And.intro (H2.out.2.2.fresh hb3) (And.intro (ho3.at_ (bys_okk _)) hm3))); clear ho3 hb3 hm3 hm3b c5
      go_wp2_with (at_builtin; go_must (refine wpList_app (α := U8) (m := m3) (B := w3.heap.size) (r := Ord.bys (Ord.numsB [(c.exits.length : Int)])) rfl (.tmp 51) (.tmp 56) _ rfl (w.heap.size + 1) 5 i0 _ 1 Try.underlying105 hii hz0 hz1 hz2 rfl (by decide) u8_one (by rfl) rfl H3.out.1 (by rfl) H3.out.2.2.1 H3.out.2.2.2 (by omega) (by simp only [maxLen]; omega) (by omega) ?_))
      intro A4 c4 w4 hown4 hgr4 hat4
      have hls : o1.length + m3 = (o1 ++ Ord.bys (Ord.numsB [(c.exits.length : Int)])).length := by rw [List.length_append, H3.out.2.2.2]
      have hbl4 := hbl3.grown hgr4 (by omega) (fun g hg => by have := (H3.out.1.lt g hg).1; omega)
      have hC4 := H3.out.2.1.grown hgr4 (own_ne_ty H3.out.1 H3.out.2.1 (by decide))
      have hs4 : w.heap.size + 1 ≤ w4.heap.size := hC4.lt
      have c5' := hC4.cell 5 (v := .slice EA c.exits.length ec) rfl
      have ltw4 : w.heap.size < w4.heap.size := by omega
      obtain ⟨o4, ho4⟩ : ∃ o4, o1 ++ Ord.bys (Ord.numsB [(c.exits.length : Int)]) = o4 := ⟨_, rfl⟩
      rw [ho4] at hown4 hls
      have ho4l : o4.length ≤ 130010 := by omega
      have ho4e : o4 = Ord.bys (Ord.numsB (([c.fn, c.at_, c.loop, c.slots, (c.orders.length : Int)] ++ c.orders.flatMap Ord.orderNums) ++ [(c.exits.length : Int)])) := by rw [← ho4, H2.out.1, ← Ord.bys_nums]
      have H4 := Lib.hid (And.intro hown4 (And.intro hls (And.intro ho4e hC4))); clear hown4 hls hgr4 hat4 hC4 ho4 ho4e
      go_wp2_with fail
      clear c5'
      go_loopg [3, 61] (c.exits.length) (fun gj ov jv wj => ∃ (j : Nat) (A2 : Option Addr) (c2 : Nat) (o2 : List U8), j ≤ c.exits.length ∧ gj = c.exits.length - j ∧ jv = .int .i64 j ∧ ov = .slice A2 o2.length c2 ∧ o2.length ≤ 130010 + j * 700000 ∧ Hid (o2 = o4 ++ Ord.bys (Ord.numsB ((c.exits.take j).flatMap Ord.exitNums)) ∧ Own wj (w.heap.size + 1) 5 A2 c2 o2 ∧ Blk wj w.heap.size 104 #[.int .i64 c.fn, .int .i64 c.at_, .int .i64 c.loop, .int .i64 c.slots, .slice OA c.orders.length oc, .slice EA c.exits.length ec, .int .i64 c.turn.at_, .int .i64 c.turn.steps, .slice TS c.turn.sets.length tsc, .slice TM c.turn.makes.length tmc, .int .i64 c.back.at_, .int .i64 c.back.steps, .slice BS c.back.sets.length bsc, .slice BM c.back.makes.length bmc]) ∧ Below w.heap.size w wj ∧ w.heap.size + 1 ≤ wj.heap.size)
      case atStart => exact ⟨0, A4, c4, o4, Nat.zero_le _, rfl, rfl, by rw [H4.out.2.1], by omega, ⟨by simp [Ord.numsB, Ord.bys], H4.out.1, H4.out.2.2.2⟩, hbl4, hs4⟩
      case round =>
        obtain ⟨j, A2, c2, o2, hj, rfl, rfl, rfl, ho2, hkeep, hblj, hsj⟩ := hrel
        by_cases hjt : j < c.exits.length
        · obtain ⟨b, o, x, SA, sc, MA, mc, rfl, hbB, hx, q0, q1, q2, q3, as_, hsc, am_, hmc, j0, j1⟩ := (H.out.1.2.1.below (hblj.mono hB)).rE_ hjt
          have hlg := HL.out x (by simp [Ord.allExits, List.mem_of_getElem? hx])
          have hen := Ord.exitNums_ok as_ am_ ⟨j0, j1⟩ hlg
          have hfs := Ord.fm_take Ord.exitNums hx
          have hj0 : (0 : Int) ≤ (j : Int) := by omega
          have hj1 : (j : Int) < (c.exits.length : Int) := by omega
          obtain ⟨F, hF⟩ : ∃ F : Array Value, F = #[.int .i64 x.at_, .int .i64 x.steps, .slice SA x.sets.length sc, .slice MA x.makes.length mc] := ⟨_, rfl⟩
          have hFB := Blk.new wr 102 F
          have hOa := hkeep.out.2.1.alloc (.cells F 102)
          have hCa := hkeep.out.2.2.alloc (.cells F 102)
          have hat2 : At (wr.alloc (.cells F 102)) B SA x.sets ∧ At (wr.alloc (.cells F 102)) B MA x.makes := ⟨as_.alloc (by omega) _, am_.alloc (by omega) _⟩
          rw [hF] at hFB hOa hCa hat2
          have HX := Lib.hid (And.intro hfs (And.intro hen (And.intro hFB (And.intro hkeep.out.1 (And.intro hOa (And.intro hCa (And.intro hat2 (And.intro (And.intro j0 j1) hlg)))))))); clear hfs j0 j1 hFB hkeep hx hOa hCa hat2 as_ am_ hF F hen hlg hsc hmc
          go_wp2_with (refine wpList_ld rfl 102 (.tmp 7) rfl wr.heap.size rfl HX.out.2.2.1 Try.underlying102 rfl (by kernel_rfl) ?_)
          refine (rexit_any B sc mc SA MA x _ HX.out.2.2.2.2.2.2.1.1 HX.out.2.2.2.2.2.2.1.2 (by rw [World.size_alloc]; omega) HX.out.2.2.2.2.2.2.2.1 HX.out.2.2.2.2.2.2.2.2).mono ?_
          rintro e w5 ⟨A5, d5, m5, rfl, hm5, hm5b, ho5, hb5⟩
          have hm5c : m5 ≤ 700000 := by have := HX.out.2.1.2; omega
          have hs5 := hb5.size
          simp only [World.size_alloc] at hs5
          have hbl5 : Below w.heap.size w w5 := (hblj.alloc (by omega) _).trans (hb5.mono (by simp; omega))
          have H5 := Lib.hid (And.intro (HX.out.2.2.2.2.1.fresh hb5) (And.intro (HX.out.2.2.2.2.2.1.fresh hb5) (And.intro (ho5.at_ (bys_okk _)) hm5))); clear ho5 hb5 hm5 hm5b
          go_wp2_with (at_builtin; go_must (refine wpList_app (α := U8) (m := m5) (B := w5.heap.size) (r := Ord.bys (Ord.numsB (Ord.exitNums x))) rfl (.tmp 65) (.tmp 67) _ rfl (w.heap.size + 1) 5 i0 _ 1 Try.underlying105 hii hz0 hz1 hz2 rfl (by decide) u8_one (by rfl) rfl H5.out.1 (by rfl) H5.out.2.2.1 H5.out.2.2.2 (by omega) (by simp only [maxLen]; omega) (by omega) ?_))
          intro A6 c6 w6 hown6 hgr6 hat6
          have heq : o2 ++ Ord.bys (Ord.numsB (Ord.exitNums x)) = o4 ++ Ord.bys (Ord.numsB ((c.exits.take (j + 1)).flatMap Ord.exitNums)) := by
            rw [HX.out.2.2.2.1, HX.out.1, Ord.bys_nums, List.append_assoc]
          have hls : o2.length + m5 = (o2 ++ Ord.bys (Ord.numsB (Ord.exitNums x))).length := by rw [List.length_append, H5.out.2.2.2]
          have hbl6 := hbl5.grown hgr6 (by omega) (fun g hg => by have := (H5.out.1.lt g hg).1; omega)
          have hC6 := H5.out.2.1.grown hgr6 (own_ne_ty H5.out.1 H5.out.2.1 (by decide))
          have hs6 : w.heap.size + 1 ≤ w6.heap.size := hC6.lt
          have H6 := Lib.hid (And.intro heq (And.intro hown6 (And.intro hC6 hls))); clear heq hown6 hgr6 hat6 hC6 hls
          go_wp2_with fail
          go_roundg (c.exits.length - (j + 1))
          case measure => omega
          case rel => exact ⟨j + 1, A6, c6, _, by omega, rfl, by go_num, by rw [H6.out.2.2.2], by rw [← H6.out.2.2.2]; omega, ⟨H6.out.1, H6.out.2.1, H6.out.2.2.1⟩, hbl6, hs6⟩
        · obtain ⟨k1, k2, k3⟩ := hkeep.out
          rw [List.take_of_length_le (by omega)] at k1
          have hcd := H.out.1.below (hblj.mono hB)
          have hT := ExA.at_ hcd.2.2.1
          have hBk := ExA.at_ hcd.2.2.2
          have hlT := HL.out c.turn (by simp [Ord.allExits])
          have hlB := HL.out c.back (by simp [Ord.allExits])
          have heT := Ord.exitNums_ok (x := c.turn) hT.1 hT.2.1 ⟨hT.2.2.1, hT.2.2.2.1⟩ hlT
          have heB := Ord.exitNums_ok (x := c.back) hBk.1 hBk.2.1 ⟨hBk.2.2.1, hBk.2.2.2.1⟩ hlB
          have ho2b : o2.length ≤ 200000000 := by omega
          have HF := Lib.hid (And.intro k1 (And.intro k2 (And.intro k3 (And.intro (And.intro hT (And.intro hlT heT)) (And.intro hBk (And.intro hlB heB)))))); clear k1 k2 k3 hkeep hcd hT hBk hlT hlB heT heB
          have hBw : B ≤ wr.heap.size := by omega
          go_upto_region 13 with fail
          refine wp_region_held_drew (S := (fun w' => w'.cell? ⟨w.heap.size, 5, none⟩ = some (.slice EA c.exits.length ec) ∧ w'.cell? ⟨w.heap.size, 6, none⟩ = some (.int .i64 c.turn.at_) ∧ w'.cell? ⟨w.heap.size, 7, none⟩ = some (.int .i64 c.turn.steps) ∧ w'.cell? ⟨w.heap.size, 8, none⟩ = some (.slice TS c.turn.sets.length tsc) ∧ w'.cell? ⟨w.heap.size, 9, none⟩ = some (.slice TM c.turn.makes.length tmc) ∧ w'.cell? ⟨w.heap.size, 10, none⟩ = some (.int .i64 c.back.at_) ∧ w'.cell? ⟨w.heap.size, 11, none⟩ = some (.int .i64 c.back.steps) ∧ w'.cell? ⟨w.heap.size, 12, none⟩ = some (.slice BS c.back.sets.length bsc) ∧ w'.cell? ⟨w.heap.size, 13, none⟩ = some (.slice BM c.back.makes.length bmc))) (by kernel_rfl) ?_ (fun hHeld0 => ?_)
          · first | trivial | ((try dsimp only); (exact cellsC HF.out.2.2.1))
          refine held_take (v := ?_) 0 rfl (by kernel_rfl) (by kernel_rfl) (by kernel_rfl) (fun _ _ _ h => h) (by rfl) ?_ (by assumption) ?_
          rotate_left
          · (intro w hSw; (try dsimp only at hSw); go_simp; try with_reducible rfl)
          try simp only [Act.put, List.setIfInBounds_toArray, List.set_cons_zero, List.set_cons_succ]
          refine held_take (v := ?_) 1 rfl (by kernel_rfl) (by kernel_rfl) (by kernel_rfl) (fun _ _ _ h => h) (by rfl) ?_ (by assumption) ?_
          rotate_left
          · (intro w hSw; (try dsimp only at hSw); go_simp; try with_reducible rfl)
          try simp only [Act.put, List.setIfInBounds_toArray, List.set_cons_zero, List.set_cons_succ]
          refine held_take (v := ?_) 2 rfl (by kernel_rfl) (by kernel_rfl) (by kernel_rfl) (fun _ _ _ h => h) (by rfl) ?_ (by assumption) ?_
          rotate_left
          · (intro w hSw; (try dsimp only at hSw); go_simp; try with_reducible rfl)
          try simp only [Act.put, List.setIfInBounds_toArray, List.set_cons_zero, List.set_cons_succ]
          refine held_take (v := ?_) 5 rfl (by kernel_rfl) (by kernel_rfl) (by kernel_rfl) (fun _ _ _ h => h) (by rfl) ?_ (by assumption) ?_
          rotate_left
          · (intro w hSw; (try dsimp only at hSw); go_simp; try with_reducible rfl)
          try simp only [Act.put, List.setIfInBounds_toArray, List.set_cons_zero, List.set_cons_succ]
          refine held_take (v := ?_) 6 rfl (by kernel_rfl) (by kernel_rfl) (by kernel_rfl) (fun _ _ _ h => h) (by rfl) ?_ (by assumption) ?_
          rotate_left
          · (intro w hSw; (try dsimp only at hSw); go_simp; try with_reducible rfl)
          try simp only [Act.put, List.setIfInBounds_toArray, List.set_cons_zero, List.set_cons_succ]
          refine held_call 3 (by kernel_rfl) rfl (fun K hK => ?_)
          go_simp
          go_at_call 99; refine (rexit_any B tsc tmc TS TM c.turn _ HF.out.2.2.2.1.1.1.drew HF.out.2.2.2.1.1.2.1.drew hBw ⟨HF.out.2.2.2.1.1.2.2.1, HF.out.2.2.2.1.1.2.2.2.1⟩ HF.out.2.2.2.1.2.1).mono ?_; rintro e w5 ⟨A5, d5, m5, rfl, hm5, hm5b, ho5d, hb5d⟩; have hb5 : Below wr.heap.size wr w5 := undrew hb5d; have hm5c : m5 ≤ 700000 := (by have := HF.out.2.2.2.1.2.2.2; omega); have hs5 := hb5.size; have hk5 := HF.out.2.2.1.fresh hb5; have hO5 := HF.out.2.1.fresh hb5; have hat5 := ho5d.at_ (bys_okk _); clear hb5d ho5d hm5b
          try (go_wp2_with fail)
          refine hK.out _ _ ?_ (fun hHeld1 => ?_)
          · first | trivial | ((try dsimp only); (exact cellsC hk5))
          clear hK K hHeld0
          try simp only [Act.put, List.setIfInBounds_toArray, List.set_cons_zero, List.set_cons_succ]
          refine held_call 4 (by kernel_rfl) rfl (fun K hK => ?_)
          refine step_app (α := U8) (n := o2.length) (m := m5) (nm := o2.length + m5) (B := w5.heap.size) (r := Ord.bys (Ord.numsB (Ord.exitNums c.turn))) (by rfl) (.tmp 70) (.tmp 73) _ (by rfl) (w.heap.size + 1) 5 i0 _ 1 Try.underlying105 hii hz0 hz1 hz2 rfl (by decide) u8_one (by rfl) rfl hO5 (by rfl) hat5 hm5 rfl (by omega) (by simp only [maxLen]; omega) (by omega) ?_; intro A6 c6 w6 ho6 hgr6 hat6; have hk6 := hk5.grown hgr6 (own_ne_ty hO5 hk5 (by decide)); have hb6 : Below (w.heap.size + 1) wr w6 := (hb5.mono hsj).grown hgr6 (by omega) (fun g hg => (hO5.lt g hg).1); have hs6 := hgr6.size; have hl6 : (o2 ++ Ord.bys (Ord.numsB (Ord.exitNums c.turn))).length = o2.length + m5 := (by rw [List.length_append, hm5])
          refine hK.out _ _ ?_ (fun hHeld2 => ?_)
          · first | trivial | ((try dsimp only); (exact cellsC hk6))
          clear hK K hHeld1
          try simp only [Act.put, List.setIfInBounds_toArray, List.set_cons_zero, List.set_cons_succ]
          refine held_call 7 (by kernel_rfl) rfl (fun K hK => ?_)
          go_simp
          go_at_call 99; refine (rexit_any B bsc bmc BS BM c.back _ (HF.out.2.2.2.2.1.1.below (hb6.mono (by omega))) (HF.out.2.2.2.2.1.2.1.below (hb6.mono (by omega))) (by omega) ⟨HF.out.2.2.2.2.1.2.2.1, HF.out.2.2.2.2.1.2.2.2.1⟩ HF.out.2.2.2.2.2.1).mono ?_; rintro e w7 ⟨A7, d7, m7, rfl, hm7, hm7b, ho7, hb7⟩; have hm7c : m7 ≤ 700000 := (by have := HF.out.2.2.2.2.2.2.2; omega); have hs7 := hb7.size; have hk7 := hk6.fresh hb7; have hO7 := ho6.fresh hb7; have hat7 := ho7.at_ (bys_okk _); clear ho7 hm7b
          try (go_wp2_with fail)
          refine hK.out _ _ ?_ (fun hHeld3 => ?_)
          · first | trivial | ((try dsimp only); (exact cellsC hk7))
          clear hK K hHeld2
          try simp only [Act.put, List.setIfInBounds_toArray, List.set_cons_zero, List.set_cons_succ]
          refine held_call 8 (by kernel_rfl) rfl (fun K hK => ?_)
          refine step_app (α := U8) (n := o2.length + m5) (m := m7) (nm := o2.length + m5 + m7) (B := w7.heap.size) (r := Ord.bys (Ord.numsB (Ord.exitNums c.back))) (by rfl) (.tmp 74) (.tmp 77) _ (by rfl) (w.heap.size + 1) 5 i0 _ 1 Try.underlying105 hii hz0 hz1 hz2 rfl (by decide) u8_one (by rfl) hl6 hO7 (by rfl) hat7 hm7 rfl (by omega) (by simp only [maxLen]; omega) (by omega) ?_; intro A8 c8 w8 ho8 hgr8 hat8; have hk8 := hk7.grown hgr8 (own_ne_ty hO7 hk7 (by decide)); have hb8 : Below (w.heap.size + 1) wr w8 := (hb6.trans (hb7.mono (by omega))).grown hgr8 (by omega) (fun g hg => (hO7.lt g hg).1)
          refine hK.out _ _ ?_ (fun hHeld4 => ?_)
          · first | trivial | ((try dsimp only); (exact cellsC hk8))
          clear hK K hHeld3
          try simp only [Act.put, List.setIfInBounds_toArray, List.set_cons_zero, List.set_cons_succ]
          refine held_take (v := ?_) 9 rfl (by kernel_rfl) (by kernel_rfl) (by kernel_rfl) (fun _ _ _ h => h) (by rfl) ?_ (by assumption) ?_
          rotate_left
          · (intro w hSw; (try dsimp only at hSw); go_simp; try with_reducible rfl)
          try simp only [Act.put, List.setIfInBounds_toArray, List.set_cons_zero, List.set_cons_succ]
          refine wpAnyH_done (by kernel_rfl) ?_ _
          have heq : o2 ++ Ord.bys (Ord.numsB (Ord.exitNums c.turn)) ++ Ord.bys (Ord.numsB (Ord.exitNums c.back)) = Ord.bys (Ord.numsB (Ord.codeNums c)) := by
            rw [HF.out.1, H4.out.2.2.1]
            simp only [← Ord.bys_nums]
            unfold Ord.codeNums
            simp
          have hls : (Ord.bys (Ord.numsB (Ord.codeNums c))).length = o2.length + m5 + m7 := by rw [← heq, List.length_append, hl6, hm7]
          have H8 := Lib.hid (And.intro heq (And.intro ho8 hls)); clear heq ho8 hls hl6 hO5 hO7 hat5 hat7 hgr6 hgr8 hk5 hk6 hk7 hk8 hm5 hm7 ho6 hat6 hat8
          go_wp2_with fail
          go_ret
          exact ⟨A8, c8, o2.length + m5 + m7, rfl, H8.out.2.2, by rw [← H8.out.1]; exact H8.out.2.1.base_le (by omega), hblj.trans (hb8.mono (by omega))⟩

end Go.Proofs.Ytljdnadejmkaeaa

/- The closed fact 'ordered'; the law OrderBytes, walked. -/
namespace Go.Proofs.Ytljdnadejmkaeaa
open Go.RowKit

theorem At.u8_ {w : World} {B : Nat} {A : Option Addr} {l : List U8} {k : Nat} (h : At w B A l) (hk : k < l.length) :
    ∃ b o x, A = some ⟨b, o, none⟩ ∧ b < B ∧ l[k]? = some x ∧ w.cell? ⟨b, o + k, none⟩ = some (.int .u8 x.val) := by
  obtain ⟨x, hx⟩ : ∃ x, l[k]? = some x := ⟨l[k], List.getElem?_eq_getElem hk⟩
  obtain ⟨b, o, cs, rfl, hb, hc, rfl, hok⟩ := h k x hx
  have h0 := hc 0 _ rfl
  simp only [Flat.sz, Enc.sz, Nat.mul_one, Nat.add_zero] at h0
  exact ⟨b, o, x, rfl, hb, hx, h0⟩

set_option maxHeartbeats 400000 in
set_option maxRecDepth 100000 in
/-- two readings of one list of bytes are alike -/
theorem eqU8_same (A A' : Option Addr) (c c' B n : Nat) (l : List U8) (w : World) (hn : l.length = n) (h : At w B A l) (h' : At w B A' l) (hB : B ≤ w.heap.size) (hl : n ≤ 9223372036854775807) :
    Calls Try.prog 45 #[.slice A n c, .slice A' n c'] w fun e w' => e = .returned (.bool true) ∧ Below w.heap.size w w' := by
  have H := Lib.hid (And.intro h (And.intro h' hn)); clear h h' hn
  go_enter Try.func45, Try.ntmps45
  go_wp2_with fail
  go_loopg [14] n (fun gk iv wr => ∃ k : Nat, k ≤ n ∧ gk = n - k ∧ iv = .int .i64 k ∧ wr = w)
  case atStart => exact ⟨0, Nat.zero_le _, rfl, rfl, rfl⟩
  case round =>
    obtain ⟨k, hk, rfl, rfl, rfl⟩ := hrel
    by_cases hlt : k < n
    · obtain ⟨b, o, x, rfl, hb, hx, h0⟩ := H.out.1.u8_ (k := k) (by have := H.out.2.2; omega)
      obtain ⟨b', o', x', rfl, hb', hx', h0'⟩ := H.out.2.1.u8_ (k := k) (by have := H.out.2.2; omega)
      obtain rfl : x' = x := Option.some.inj (hx'.symm.trans hx)
      have hk0 : (0 : Int) ≤ (k : Int) := by omega
      have hk1 : (k : Int) < (n : Int) := by omega
      clear hx hx'
      go_wp2_with fail
      go_roundg (n - (k + 1))
      case measure => omega
      case rel => exact ⟨k + 1, by omega, rfl, by go_num, rfl⟩
    · go_wp2_with fail
      go_ret
      exact ⟨rfl, Below.refl _ _⟩

def ro1 : RO := ⟨6, 3, 0, 0, 0, -1, (0, 0)⟩
def ro2 : RO := ⟨1, 1, 3, 0, 0, -1, (0, 0)⟩
def re0 : RE := ⟨0, 0, [], []⟩
def rc1 : RC := ⟨0, 0, 0, 0, [ro1, ro2], [], re0, re0⟩
def rc2 : RC := ⟨0, 0, 0, 0, [ro2], [], re0, re0⟩
theorem err1 : Ord.err rc1 = 0 := by decide +kernel
theorem err2 : Ord.err rc2 = 3 := by decide +kernel

theorem cells14 {w : World} {g : Nat} {t : TypeId} {v0 v1 v2 v3 v4 v5 v6 v7 v8 v9 v10 v11 v12 v13 : Value} (h : Blk w g t #[v0, v1, v2, v3, v4, v5, v6, v7, v8, v9, v10, v11, v12, v13]) :
    w.cell? ⟨g, 0, none⟩ = some v0 ∧ w.cell? ⟨g, 1, none⟩ = some v1 ∧ w.cell? ⟨g, 2, none⟩ = some v2 ∧ w.cell? ⟨g, 3, none⟩ = some v3 ∧ w.cell? ⟨g, 4, none⟩ = some v4 ∧ w.cell? ⟨g, 5, none⟩ = some v5 ∧ w.cell? ⟨g, 6, none⟩ = some v6 ∧ w.cell? ⟨g, 7, none⟩ = some v7 ∧ w.cell? ⟨g, 8, none⟩ = some v8 ∧ w.cell? ⟨g, 9, none⟩ = some v9 ∧ w.cell? ⟨g, 10, none⟩ = some v10 ∧ w.cell? ⟨g, 11, none⟩ = some v11 ∧ w.cell? ⟨g, 12, none⟩ = some v12 ∧ w.cell? ⟨g, 13, none⟩ = some v13 :=
  ⟨h.cell 0 rfl, h.cell 1 rfl, h.cell 2 rfl, h.cell 3 rfl, h.cell 4 rfl, h.cell 5 rfl, h.cell 6 rfl, h.cell 7 rfl, h.cell 8 rfl, h.cell 9 rfl, h.cell 10 rfl, h.cell 11 rfl, h.cell 12 rfl, h.cell 13 rfl⟩

def roRaw (x : RO) : Raw 8 := ⟨[.int .i64 x.op, .int .i64 x.a, .int .i64 x.b, .int .i64 x.c, .int .i64 x.n, .int .i64 x.exit, .int .i64 x.k.1, .int .i64 x.k.2], rfl, by intro u hu; simp at hu; rcases hu with rfl | rfl | rfl | rfl | rfl | rfl | rfl | rfl <;> rfl⟩
theorem nilRd {α : Type} [Enc α] (w : World) (B : Nat) : Enc.rd w B [.slice none 0 0] ([] : List α) := ⟨none, 0, rfl, Nat.le_refl _, by simp [maxLen], fun _ => rfl, At.nil_⟩
theorem ro1_rd (w : World) (B : Nat) : Enc.rd w B (roRaw ro1).cs ro1 := ⟨rfl, ⟨by decide, by decide⟩, ⟨by decide, by decide⟩, ⟨by decide, by decide⟩, ⟨by decide, by decide⟩, ⟨by decide, by decide⟩, ⟨by decide, by decide⟩, ⟨by decide, by decide⟩, ⟨by decide, by decide⟩⟩
theorem ro2_rd (w : World) (B : Nat) : Enc.rd w B (roRaw ro2).cs ro2 := ⟨rfl, ⟨by decide, by decide⟩, ⟨by decide, by decide⟩, ⟨by decide, by decide⟩, ⟨by decide, by decide⟩, ⟨by decide, by decide⟩, ⟨by decide, by decide⟩, ⟨by decide, by decide⟩, ⟨by decide, by decide⟩⟩
theorem re0_rd (w : World) (B : Nat) : (⟨re0, none, 0, none, 0⟩ : ExA).rd w B := ⟨.slice none 0 0, .slice none 0 0, rfl, ⟨by decide, by decide⟩, ⟨by decide, by decide⟩, nilRd _ _, nilRd _ _⟩
theorem rc_ints {l : List RO} (h : ∀ x ∈ l, x = ro1 ∨ x = ro2) : ∀ x ∈ l, (I64 x.a ∧ I64 x.b ∧ I64 x.c) ∧ I64 x.k.1 ∧ I64 x.k.2 := by
  intro x hx
  rcases h x hx with rfl | rfl
  · exact ⟨⟨⟨by decide, by decide⟩, ⟨by decide, by decide⟩, ⟨by decide, by decide⟩⟩, ⟨by decide, by decide⟩, ⟨by decide, by decide⟩⟩
  · exact ⟨⟨⟨by decide, by decide⟩, ⟨by decide, by decide⟩, ⟨by decide, by decide⟩⟩, ⟨by decide, by decide⟩, ⟨by decide, by decide⟩⟩
theorem rc1_at (w : World) : At (w.alloc (.cells #[.int .i64 6, .int .i64 3, .int .i64 0, .int .i64 0, .int .i64 0, .int .i64 (-1), .int .i64 0, .int .i64 0, .int .i64 1, .int .i64 1, .int .i64 3, .int .i64 0, .int .i64 0, .int .i64 (-1), .int .i64 0, .int .i64 0] 146)) (w.heap.size + 1) (some ⟨w.heap.size, 0, none⟩) [ro1, ro2] :=
  at_unraw (α := RO) (xs := [ro1, ro2]) rfl (At.built w #[.int .i64 6, .int .i64 3, .int .i64 0, .int .i64 0, .int .i64 0, .int .i64 (-1), .int .i64 0, .int .i64 0, .int .i64 1, .int .i64 1, .int .i64 3, .int .i64 0, .int .i64 0, .int .i64 (-1), .int .i64 0, .int .i64 0] 146 [roRaw ro1, roRaw ro2] rfl (fun _ _ => trivial)) rfl (fun i r x hr hx => by
    match i with
    | 0 => simp at hr hx; subst hr hx; exact ro1_rd _ _
    | 1 => simp at hr hx; subst hr hx; exact ro2_rd _ _
    | i + 2 => simp at hr)
theorem rc2_at (w : World) : At (w.alloc (.cells #[.int .i64 1, .int .i64 1, .int .i64 3, .int .i64 0, .int .i64 0, .int .i64 (-1), .int .i64 0, .int .i64 0] 146)) (w.heap.size + 1) (some ⟨w.heap.size, 0, none⟩) [ro2] :=
  at_unraw (α := RO) (xs := [ro2]) rfl (At.built w #[.int .i64 1, .int .i64 1, .int .i64 3, .int .i64 0, .int .i64 0, .int .i64 (-1), .int .i64 0, .int .i64 0] 146 [roRaw ro2] rfl (fun _ _ => trivial)) rfl (fun i r x hr hx => by
    match i with
    | 0 => simp at hr hx; subst hr hx; exact ro2_rd _ _
    | i + 1 => simp at hr)

set_option maxHeartbeats 1600000 in
set_option maxRecDepth 100000 in
theorem ordered_any (w : World) : Calls Try.prog 42 #[] w fun e w' => e = .returned (.bool true) ∧ Below w.heap.size w w' := by
  go_enter Try.func42, Try.ntmps42
  go_upto_region 3 with fail
  refine wp_world (fun V => Blk V (w.heap.size + 1) 104 #[.int .i64 0, .int .i64 0, .int .i64 0, .int .i64 0, .slice (some ⟨w.heap.size, 0, none⟩) 2 2, .slice none 0 0, .int .i64 0, .int .i64 0, .slice none 0 0, .slice none 0 0, .int .i64 0, .int .i64 0, .slice none 0 0, .slice none 0 0] ∧ Blk V (w.heap.size + 3) 104 #[.int .i64 0, .int .i64 0, .int .i64 0, .int .i64 0, .slice (some ⟨w.heap.size + 2, 0, none⟩) 1 1, .slice none 0 0, .int .i64 0, .int .i64 0, .slice none 0 0, .slice none 0 0, .int .i64 0, .int .i64 0, .slice none 0 0, .slice none 0 0] ∧ CdAt V (w.heap.size + 4) rc1 (some ⟨w.heap.size, 0, none⟩) none none none none none 0 0 0 0 ∧ CdAt V (w.heap.size + 4) rc2 (some ⟨w.heap.size + 2, 0, none⟩) none none none none none 0 0 0 0 ∧ Below w.heap.size w V ∧ w.heap.size + 4 ≤ V.heap.size) ⟨?_, ?_, ?_, ?_, ?_, ?_⟩ ?_
  · exact ((Blk.at_ _ _ _ (by simp)).alloc _).alloc _
  · exact Blk.at_ _ _ _ (by simp)
  · refine ⟨?_, At.nil_, re0_rd _ _, re0_rd _ _⟩
    exact (((rc1_at w).alloc (by simp; try omega) _).alloc (by simp; try omega) _ |>.alloc (by simp; try omega) _).more (by omega)
  · refine ⟨?_, At.nil_, re0_rd _ _, re0_rd _ _⟩
    have := rc2_at ((w.alloc (.cells #[.int .i64 6, .int .i64 3, .int .i64 0, .int .i64 0, .int .i64 0, .int .i64 (-1), .int .i64 0, .int .i64 0, .int .i64 1, .int .i64 1, .int .i64 3, .int .i64 0, .int .i64 0, .int .i64 (-1), .int .i64 0, .int .i64 0] 146)).alloc (.cells #[.int .i64 0, .int .i64 0, .int .i64 0, .int .i64 0, .slice (some ⟨w.heap.size, 0, none⟩) 2 2, .slice none 0 0, .int .i64 0, .int .i64 0, .slice none 0 0, .slice none 0 0, .int .i64 0, .int .i64 0, .slice none 0 0, .slice none 0 0] 104))
    simp only [World.size_alloc] at this
    exact (this.alloc (by simp; try omega) _).more (by omega)
  · exact ((((Below.refl _ _).alloc (Nat.le_refl _) _).alloc (by simp) _).alloc (by simp; omega) _).alloc (by simp; omega) _
  · simp
  rintro V ⟨hB1, hB2, hC1, hC2, hb0, hs0⟩
  have H := Lib.hid (And.intro hB1 (And.intro hB2 (And.intro hC1 hC2))); clear hB1 hB2 hC1 hC2
  go_wp2_with (refine wpList_ld rfl 104 (.tmp 1) rfl (w.heap.size + 1) rfl H.out.1 Try.underlying104 rfl (by kernel_rfl) ?_)
  refine (ocheck_any (w.heap.size + 4) 2 0 0 0 0 0 (some ⟨w.heap.size, 0, none⟩) none none none none none rc1 V H.out.2.2.1 hs0 (by decide) (by decide) (rc_ints (by simp [rc1]))).mono ?_
  rintro e w1 ⟨rfl, hb1⟩
  rw [err1]
  have hs1 := hb1.size
  have hk2 := H.out.2.1.fresh hb1
  have hcd := H.out.2.2.2.below (hb1.mono hs0)
  have H1 := Lib.hid (And.intro hk2 hcd); clear hk2 hcd
  obtain ⟨u0, u1, u2, u3, u4, u5, u6, u7, u8, u9, u10, u11, u12, u13⟩ := cells14 H1.out.1
  have lt1 : w.heap.size + 3 < w1.heap.size := by omega
  go_wp2_with fail
  clear u0 u1 u2 u3 u4 u5 u6 u7 u8 u9 u10 u11 u12 u13
  refine (ocheck_any (w.heap.size + 4) 1 0 0 0 0 0 (some ⟨w.heap.size + 2, 0, none⟩) none none none none none rc2 w1 H1.out.2 (by omega) (by decide) (by decide) (rc_ints (by simp [rc2]))).mono ?_
  rintro e w2 ⟨rfl, hb2⟩
  rw [err2]
  go_wp2_with fail
  go_ret
  exact ⟨rfl, (hb0.trans (hb1.mono (by omega))).trans (hb2.mono (by omega))⟩

set_option maxHeartbeats 1600000 in
set_option maxRecDepth 100000 in
theorem orderBytes_any (B oc ec tsc tmc bsc bmc : Nat) (OA EA TS TM BS BM : Option Addr) (c : RC) (w : World) (h : CdAt w B c OA EA TS TM BS BM tsc tmc bsc bmc) (hB : B ≤ w.heap.size) (hol : c.orders.length ≤ 9223372036854775807) (hel : (c.exits.length + 2) * 64 ≤ 140737488355328)
    (hci : I64 c.fn ∧ I64 c.at_ ∧ I64 c.loop ∧ I64 c.slots) :
    Calls Try.prog 11 #[.agg #[.int .i64 c.fn, .int .i64 c.at_, .int .i64 c.loop, .int .i64 c.slots, .slice OA c.orders.length oc, .slice EA c.exits.length ec, .int .i64 c.turn.at_, .int .i64 c.turn.steps, .slice TS c.turn.sets.length tsc, .slice TM c.turn.makes.length tmc, .int .i64 c.back.at_, .int .i64 c.back.steps, .slice BS c.back.sets.length bsc, .slice BM c.back.makes.length bmc]] w fun e w' => e = .returned (.bool true) ∧ Below w.heap.size w w' := by
  have hoi : ∀ x ∈ c.orders, ((I64 x.a ∧ I64 x.b ∧ I64 x.c) ∧ I64 x.k.1 ∧ I64 x.k.2) ∧ I64 x.op ∧ I64 x.n ∧ I64 x.exit := fun x hx => by
    obtain ⟨i, hi⟩ := List.mem_iff_getElem?.1 hx
    obtain ⟨b, o, y, -, -, hy, -, -, -, -, -, -, -, -, j0, j1, j2, j3, j4, j5, j6, j7⟩ := h.1.rO_ (List.getElem?_eq_some_iff.1 hi).1
    obtain rfl : y = x := Option.some.inj (hy.symm.trans hi)
    exact ⟨⟨⟨j1, j2, j3⟩, j6, j7⟩, j0, j4, j5⟩
  have H := Lib.hid (And.intro h (And.intro (fun x hx => (hoi x hx).1) (And.intro hci (fun x hx => (hoi x hx).2)))); clear h hoi hci
  obtain ⟨er, her⟩ : ∃ er, Ord.err c = er := ⟨_, rfl⟩
  have HE := Lib.hid her; clear her
  go_enter Try.func11, Try.ntmps11
  go_wp2_with fail
  refine calls_world (fun W => Blk W w.heap.size 104 #[.int .i64 c.fn, .int .i64 c.at_, .int .i64 c.loop, .int .i64 c.slots, .slice OA c.orders.length oc, .slice EA c.exits.length ec, .int .i64 c.turn.at_, .int .i64 c.turn.steps, .slice TS c.turn.sets.length tsc, .slice TM c.turn.makes.length tmc, .int .i64 c.back.at_, .int .i64 c.back.steps, .slice BS c.back.sets.length bsc, .slice BM c.back.makes.length bmc] ∧ Below w.heap.size w W ∧ w.heap.size + 1 ≤ W.heap.size) ⟨Blk.new _ _ _, (Below.refl _ _).alloc (Nat.le_refl _) _, by simp⟩ ?_
  rintro W ⟨hC, hb0, hs0⟩
  refine (ordered_any W).mono ?_
  rintro e w1 ⟨rfl, hb1⟩
  have hs1 := hb1.size
  have hbl1 := hb0.trans (hb1.mono (by omega))
  have H1 := Lib.hid (And.intro (hC.fresh hb1) (H.out.1.below (hbl1.mono hB))); clear hC
  go_wp2_with (refine wpList_ld rfl 104 (.tmp 1) rfl w.heap.size rfl H1.out.1 Try.underlying104 rfl (by kernel_rfl) ?_)
  refine (encode_any B oc ec tsc tmc bsc bmc OA EA TS TM BS BM c w1 H1.out.2 (by omega) hol hel H.out.2.1 H.out.2.2.1 H.out.2.2.2).mono ?_
  rintro e w2 ⟨hb2, hp⟩
  rw [HE.out] at hp
  have hs2 := hb2.size
  have hbl2 := hbl1.trans (hb2.mono (by omega))
  have hC2 := H1.out.1.fresh hb2
  have hCd2 := H.out.1.below (hbl2.mono hB)
  rcases hp with ⟨rfl, A, d, rfl, hown⟩ | ⟨h0, rfl⟩
  · obtain ⟨m, hm⟩ : ∃ m, (Ord.bys (Ord.numsB (Ord.codeNums c))).length = m := ⟨_, rfl⟩
    rw [hm]
    have H2 := Lib.hid (And.intro hC2 (And.intro hCd2 (And.intro hown hm))); clear hC2 hCd2 hown hm
    go_wp2_with (refine wpList_ld rfl 104 (.tmp 1) rfl w.heap.size rfl H2.out.1 Try.underlying104 rfl (by kernel_rfl) ?_)
    refine (ocheck_any B oc ec tsc tmc bsc bmc OA EA TS TM BS BM c w2 H2.out.2.1 (by omega) hol hel H.out.2.1).mono ?_
    rintro e w3 ⟨rfl, hb3⟩
    rw [HE.out]
    have hs3 := hb3.size
    have hbl3 := hbl2.trans (hb3.mono (by omega))
    have H3 := Lib.hid (And.intro (H2.out.1.fresh hb3) (And.intro (H.out.1.below (hbl3.mono hB)) (H2.out.2.2.1.fresh hb3)))
    obtain ⟨u0, u1, u2, u3, u4, u5, u6, u7, u8, u9, u10, u11, u12, u13⟩ := cells14 H3.out.1
    have lt3 : w.heap.size < w3.heap.size := by omega
    go_wp2_with fail
    clear u0 u1 u2 u3 u4 u5 u6 u7 u8 u9 u10 u11 u12 u13
    refine (rcode_any B oc ec tsc tmc bsc bmc OA EA TS TM BS BM c w3 H3.out.2.1 (by omega) (Ord.err_ok HE.out) H.out.2.2.1).mono ?_
    rintro e w4 ⟨A4, d4, m4, rfl, hm4, ho4, hb4⟩
    have hs4 := hb4.size
    obtain rfl : m4 = m := hm4.symm.trans H2.out.2.2.2
    have hbl4 := hbl3.trans (hb4.mono (by omega))
    have hmx : m4 ≤ 9223372036854775807 := by have := ho4.le_cap; unfold maxLen at this; omega
    have H4 := Lib.hid (And.intro ((H3.out.2.2.fresh hb4).at_ (bys_okk _)) (And.intro (ho4.at_ (bys_okk _)) hm4)); clear ho4 hm4
    go_wp2_with fail
    refine (eqU8_same A A4 d d4 w4.heap.size m4 _ w4 H4.out.2.2 H4.out.1 H4.out.2.1 (Nat.le_refl _) hmx).mono ?_
    rintro e w5 ⟨rfl, hb5⟩
    go_wp2_with fail
    go_ret
    exact ⟨rfl, hbl4.trans (hb5.mono (by omega))⟩
  · have hne : (er != 0) = true := by simp [h0]
    have H2 := Lib.hid (And.intro hC2 (And.intro hCd2 h0)); clear hC2 hCd2 h0
    go_wp2_with (refine wpList_ld rfl 104 (.tmp 1) rfl w.heap.size rfl H2.out.1 Try.underlying104 rfl (by kernel_rfl) ?_)
    refine (ocheck_any B oc ec tsc tmc bsc bmc OA EA TS TM BS BM c w2 H2.out.2.1 (by omega) hol hel H.out.2.1).mono ?_
    rintro e w3 ⟨rfl, hb3⟩
    rw [HE.out]
    go_wp2_with fail
    go_ret
    exact ⟨ret_bool (by simp), hbl2.trans (hb3.mono (by omega))⟩

end Go.Proofs.Ytljdnadejmkaeaa

/-
  From an argument's reading to Lean's data: what it asks of a type, and the general laws (integers, structs of integers, slices).
-/
namespace Go.Proofs.Ytljdnadejmkaeaa
open Go.RowKit Go.ChangeShapes Go.WideShapes Go.Deep

/-- how many bytes a value of the type has, whether a value's slices fit a bound on bytes, how many values it holds -/
class Meas (α : Type) where
  bytes : Nat
  fits : Nat → α → Prop
  blk : α → Nat

def blkSum {α : Type} [Meas α] : List α → Nat
  | [] => 0
  | x :: l => Meas.blk x + blkSum l

instance : Meas Int where
  bytes := 8
  fits _ _ := True
  blk _ := 1
instance : Meas (Int × Int) where
  bytes := 16
  fits _ _ := True
  blk _ := 3
instance : Meas (Int × Int × Int) where
  bytes := 24
  fits _ _ := True
  blk _ := 5
instance : Meas U64 where
  bytes := 8
  fits _ _ := True
  blk _ := 1
instance {α : Type} [Meas α] : Meas (List α) where
  bytes := 24
  fits M l := l.length * Meas.bytes α ≤ M ∧ ∀ x ∈ l, Meas.fits M x
  blk l := blkSum l + 1

theorem bulk_pos {H : Type} (d : DataW H) : 1 ≤ Rows.uptoBulk d := by
  cases d with
  | lit l => cases l <;> simp [Rows.uptoBulk]
  | nil => simp [Rows.uptoBulk]
  | ptr d => simp [Rows.uptoBulk]
  | slice elems spare => simp [Rows.uptoBulk]
  | agg parts => simp [Rows.uptoBulk]
  | iface t d => simp [Rows.uptoBulk]
  | map entries => simp [Rows.uptoBulk]
  | held h => simp [Rows.uptoBulk]

/-- a type of the program's whose every reading is Lean's data of type α -/
def Opens (α : Type) [Enc α] [Meas α] (P : Program) (t : TypeId) : Prop :=
  P.bytesOf t = Meas.bytes α ∧ P.cellsOf t = Enc.sz α ∧ 0 < Enc.sz α ∧
    ∀ (H : Type) (enc : TypeId × Value → H) (w : World) (spare : Nat → Bool) (held : Bool) (fuel : Nat) (cs : List Value) (x : DataW H × List MemPlace), DataW.trod enc P w 0 spare held fuel t cs = some x →
      ∃ a : α, Enc.rd w w.heap.size cs a ∧ (∀ M, (∀ n ∈ x.1.weights P t, n ≤ M) → Meas.fits M a) ∧ Meas.blk a ≤ Rows.uptoBulk x.1

theorem opens_int {P : Program} {t : TypeId} (ht : P.underlying t = some (.int .i64)) (hb : P.bytesOf t = 8) (hc : P.cellsOf t = 1) : Opens Int P t := by
  refine ⟨hb, hc, Nat.zero_lt_one, fun H enc w spare held fuel cs x h => ?_⟩
  obtain ⟨n, rfl, rfl, hwf⟩ := DataW.trod_int ht h
  refine ⟨n, ⟨rfl, ?_⟩, fun _ _ => trivial, bulk_pos _⟩
  have : -9223372036854775808 ≤ n ∧ n ≤ 9223372036854775807 := by simpa [Lit.wf, IntKind.min, IntKind.max, IntKind.signed, IntKind.bits] using hwf
  exact this

theorem opens_u64 {P : Program} {t : TypeId} (ht : P.underlying t = some (.int .u64)) (hb : P.bytesOf t = 8) (hc : P.cellsOf t = 1) : Opens U64 P t := by
  refine ⟨hb, hc, Nat.zero_lt_one, fun H enc w spare held fuel cs x h => ?_⟩
  obtain ⟨n, rfl, rfl, hwf⟩ := DataW.trod_int ht h
  refine ⟨⟨n⟩, ⟨rfl, ?_⟩, fun _ _ => trivial, bulk_pos _⟩
  have : 0 ≤ n ∧ n ≤ 18446744073709551615 := by simpa [Lit.wf, IntKind.min, IntKind.max, IntKind.signed, IntKind.bits] using hwf
  exact this

theorem mem_weightsAll {H : Type} {P : Program} {e : TypeId} {l : List (DataW H)} {d : DataW H} (hd : d ∈ l) : ∀ n ∈ d.weights P e, n ∈ DataW.weightsAll P e l := by
  induction l with
  | nil => cases hd
  | cons y l ih =>
    intro n hn
    simp only [DataW.weightsAll, List.mem_append]
    rcases List.mem_cons.1 hd with rfl | h
    · exact .inl hn
    · exact .inr (ih h n hn)

theorem blkSum_le {α H : Type} [Meas α] (f : Nat → α) (D : Nat → DataW H) : ∀ n, (∀ i, i < n → Meas.blk (f i) ≤ Rows.uptoBulk (D i)) → blkSum ((List.range n).map f) ≤ Rows.uptoBulkAll ((List.range n).map D) := by
  intro n
  have key : ∀ l : List Nat, (∀ i ∈ l, Meas.blk (f i) ≤ Rows.uptoBulk (D i)) → blkSum (l.map f) ≤ Rows.uptoBulkAll (l.map D) := by
    intro l
    induction l with
    | nil => intro _; simp [blkSum, Rows.uptoBulkAll]
    | cons i l ih =>
      intro h
      simp only [List.map_cons, blkSum, Rows.uptoBulkAll]
      have h1 := h i (by simp)
      have h2 := ih fun j hj => h j (by simp [hj])
      omega
  exact fun h => key _ fun i hi => h i (List.mem_range.1 hi)

theorem opens_list {α : Type} [Enc α] [Meas α] [Inhabited α] {P : Program} {t e : TypeId} (ht : P.underlying t = some (.slice e)) (hb : P.bytesOf t = 24) (hc : P.cellsOf t = 1) (he : Opens α P e) : Opens (List α) P t := by
  refine ⟨hb, hc, Nat.zero_lt_one, fun H enc w spare held fuel cs x h => ?_⟩
  rcases open_slice ht h with ⟨rfl, rfl⟩ | ⟨a, len, cap, m, n, D, Pl, rfl, hba, hl, hm, hmm, rfl, hi⟩
  · exact ⟨[], ⟨none, 0, rfl, Nat.le_refl _, by simp [maxLen], fun _ => rfl, At.nil_⟩, fun _ _ => ⟨by simp, by simp⟩, by simp [Meas.blk, blkSum, Rows.uptoBulk]⟩
  · have hlm : len ≤ m := by subst hmm; split <;> omega
    obtain ⟨f, hf⟩ := choose_lt (α := α) (n := len) (p := fun i y => ∃ cs', w.cells? 0 (a.add (i * P.cellsOf e)) (P.cellsOf e) = some cs' ∧ Enc.rd w w.heap.size cs' y ∧ (∀ M, (∀ n ∈ (D i).weights P e, n ≤ M) → Meas.fits M y) ∧ Meas.blk y ≤ Rows.uptoBulk (D i)) (fun i hil => by
      obtain ⟨cs', h1, h2⟩ := hi i (by omega)
      obtain ⟨y, hy1, hy2, hy3⟩ := he.2.2.2 H enc w spare held n cs' (D i, Pl i) h2
      exact ⟨y, cs', h1, hy1, hy2, hy3⟩)
    refine ⟨(List.range len).map f, ⟨some a, cap, by simp, by simpa using hl, hm, by simp, ?_⟩, fun M hM => ⟨?_, ?_⟩, ?_⟩
    · intro i y hy
      have hil : i < len := by
        have := (List.getElem?_eq_some_iff.1 hy).1
        simpa using this
      have hyf : y = f i := by
        rw [List.getElem?_map, List.getElem?_range hil] at hy
        simpa using hy.symm
      subst hyf
      have hspot : a.spot = none := by
        obtain ⟨cs0, h1, -, -, -⟩ := hf 0 (by omega)
        obtain ⟨-, hlen, hcell⟩ := World.cells?_some h1
        rw [he.2.1] at hlen hcell
        have h0 := hcell 0 he.2.2.1
        rw [List.getElem?_eq_getElem (by rw [hlen]; exact he.2.2.1), Nat.zero_mul] at h0
        exact World.cell?_spot (a := a) h0
      obtain ⟨cs', h1, h2, -, -⟩ := hf i hil
      obtain ⟨-, hlen, hcell⟩ := World.cells?_some h1
      rw [he.2.1] at hlen hcell h1
      obtain ⟨b, o, spot⟩ := a
      have hpos := he.2.2.1
      have h0 := hcell 0 hpos
      rw [List.getElem?_eq_getElem (by omega)] at h0
      simp only at hspot
      subst hspot
      refine ⟨b, o, cs', rfl, ?_, ?_, h2⟩
      · rw [add_mk, add_mk] at h0
        exact block_lt_of_cell h0
      · intro j u hu
        have hj : j < Enc.sz α := by rw [← hlen]; exact (List.getElem?_eq_some_iff.1 hu).1
        have := hcell j hj
        rw [add_mk, add_mk, hu] at this
        exact this
    · have h1 := hM ((len + (m - len)) * P.bytesOf e) (by simp [DataW.weights, ht])
      rw [he.1] at h1
      simp only [List.length_map, List.length_range]
      exact Nat.le_trans (Nat.mul_le_mul_right _ (by omega)) h1
    · intro y hy
      obtain ⟨i, hi', rfl⟩ := List.mem_map.1 hy
      have hil := List.mem_range.1 hi'
      obtain ⟨-, -, -, h3, -⟩ := hf i hil
      refine h3 M fun n hn => hM n ?_
      simp only [DataW.weights, ht, List.mem_cons, List.mem_append]
      exact .inr (.inl (mem_weightsAll (List.mem_map.2 ⟨i, hi', rfl⟩) n hn))
    · have h1 := blkSum_le f D len fun i hil => by
        obtain ⟨-, -, -, -, h4⟩ := hf i hil
        exact h4
      simp only [Meas.blk, Rows.uptoBulk]
      omega

/-- a list of known length, written out -/
theorem len1 {α : Type} {l : List α} (h : l.length = 1) : ∃ a, l = [a] := by
  match l, h with | [a], _ => exact ⟨a, rfl⟩
theorem lenS {α : Type} {l : List α} {n : Nat} (h : l.length = n + 1) : ∃ a r, l = a :: r ∧ r.length = n := by
  match l, h with | a :: r, h => exact ⟨a, r, rfl, by simpa using h⟩

end Go.Proofs.Ytljdnadejmkaeaa

/-
  The types of this seat's arguments, opened (printed by genopen.py).
-/
namespace Go.Proofs.Ytljdnadejmkaeaa
open Go.RowKit Go.ChangeShapes Go.WideShapes Go.Deep

theorem opens_Int : Opens Int Try.prog 3 := opens_int Try.underlying3 (by kernel_rfl) (by kernel_rfl)

theorem opens_P_Val : Opens (Int × Int) Try.prog 23 := by
  refine ⟨by kernel_rfl, by kernel_rfl, by decide, ?_⟩
  intro H enc w spare held fuel cs x h
  obtain ⟨xs, n, -, rfl, hl, hxl, hf⟩ := DataW.trod_struct Try.underlying23 h
  have hl' : cs.length = 1 + 1 := hl.trans (by kernel_rfl)
  have hxl' : xs.length = 1 + 1 := hxl
  obtain ⟨c0, r, rfl, hl2⟩ := lenS hl'
  obtain ⟨c1, rfl⟩ := len1 hl2
  obtain ⟨y0, s, rfl, hxl2⟩ := lenS hxl'
  obtain ⟨y1, rfl⟩ := len1 hxl2
  have g0 : DataW.trod enc Try.prog w 0 spare held n 3 (([c0, c1].drop 0).take (Try.prog.cellsOf 3)) = some y0 := hf 0 _ rfl
  have g1 : DataW.trod enc Try.prog w 0 spare held n 3 (([c0, c1].drop 1).take (Try.prog.cellsOf 3)) = some y1 := hf 1 _ rfl
  rw [show Try.prog.cellsOf 3 = 1 from opens_Int.2.1] at g0 g1
  obtain ⟨a0, ⟨e0, i0⟩, -, -⟩ := opens_Int.2.2.2 _ _ _ _ _ _ _ _ g0
  obtain ⟨a1, ⟨e1, i1⟩, -, -⟩ := opens_Int.2.2.2 _ _ _ _ _ _ _ _ g1
  injection e0 with e0; subst e0
  injection e1 with e1; subst e1
  refine ⟨(a0, a1), ⟨rfl, i0, i1⟩, fun _ _ => trivial, ?_⟩
  have b0 := bulk_pos y0.1
  have b1 := bulk_pos y1.1
  simp only [Meas.blk, Rows.uptoBulk, Rows.uptoBulkAll, List.map_cons, List.map_nil]
  omega
theorem opens_P_Val_l : Opens (List (Int × Int)) Try.prog 24 := opens_list Try.underlying24 (by kernel_rfl) (by kernel_rfl) opens_P_Val

theorem opens_P_Try : Opens (Int × Int) Try.prog 44 := by
  refine ⟨by kernel_rfl, by kernel_rfl, by decide, ?_⟩
  intro H enc w spare held fuel cs x h
  obtain ⟨xs, n, -, rfl, hl, hxl, hf⟩ := DataW.trod_struct Try.underlying44 h
  have hl' : cs.length = 1 + 1 := hl.trans (by kernel_rfl)
  have hxl' : xs.length = 1 + 1 := hxl
  obtain ⟨c0, r, rfl, hl2⟩ := lenS hl'
  obtain ⟨c1, rfl⟩ := len1 hl2
  obtain ⟨y0, s, rfl, hxl2⟩ := lenS hxl'
  obtain ⟨y1, rfl⟩ := len1 hxl2
  have g0 : DataW.trod enc Try.prog w 0 spare held n 3 (([c0, c1].drop 0).take (Try.prog.cellsOf 3)) = some y0 := hf 0 _ rfl
  have g1 : DataW.trod enc Try.prog w 0 spare held n 3 (([c0, c1].drop 1).take (Try.prog.cellsOf 3)) = some y1 := hf 1 _ rfl
  rw [show Try.prog.cellsOf 3 = 1 from opens_Int.2.1] at g0 g1
  obtain ⟨a0, ⟨e0, i0⟩, -, -⟩ := opens_Int.2.2.2 _ _ _ _ _ _ _ _ g0
  obtain ⟨a1, ⟨e1, i1⟩, -, -⟩ := opens_Int.2.2.2 _ _ _ _ _ _ _ _ g1
  injection e0 with e0; subst e0
  injection e1 with e1; subst e1
  refine ⟨(a0, a1), ⟨rfl, i0, i1⟩, fun _ _ => trivial, ?_⟩
  have b0 := bulk_pos y0.1
  have b1 := bulk_pos y1.1
  simp only [Meas.blk, Rows.uptoBulk, Rows.uptoBulkAll, List.map_cons, List.map_nil]
  omega
theorem opens_P_Try_l : Opens (List (Int × Int)) Try.prog 25 := opens_list Try.underlying25 (by kernel_rfl) (by kernel_rfl) opens_P_Try

instance : Meas Fr where
  bytes := 96
  fits M x := Meas.fits M x.regs ∧ Meas.fits M x.tries
  blk x := 1 + 1 + 1 + 1 + 1 + 3 + Meas.blk x.regs + Meas.blk x.tries
instance : Inhabited Fr := ⟨⟨default, default, default, default, default, default, default⟩⟩
theorem opens_Fr : Opens Fr Try.prog 27 := by
  refine ⟨by kernel_rfl, by kernel_rfl, by decide, ?_⟩
  intro H enc w spare held fuel cs x h
  obtain ⟨xs, n, -, rfl, hl, hxl, hf⟩ := DataW.trod_struct Try.underlying27 h
  have hl1 : cs.length = 7 + 1 := hl.trans (by kernel_rfl)
  have hx1 : xs.length = 6 + 1 := hxl
  obtain ⟨c0, r0, rfl, hl2⟩ := lenS hl1
  obtain ⟨c1, r1, rfl, hl3⟩ := lenS hl2
  obtain ⟨c2, r2, rfl, hl4⟩ := lenS hl3
  obtain ⟨c3, r3, rfl, hl5⟩ := lenS hl4
  obtain ⟨c4, r4, rfl, hl6⟩ := lenS hl5
  obtain ⟨c5, r5, rfl, hl7⟩ := lenS hl6
  obtain ⟨c6, r6, rfl, hl8⟩ := lenS hl7
  obtain ⟨c7, rfl⟩ := len1 hl8
  obtain ⟨y0, s0, rfl, hx2⟩ := lenS hx1
  obtain ⟨y1, s1, rfl, hx3⟩ := lenS hx2
  obtain ⟨y2, s2, rfl, hx4⟩ := lenS hx3
  obtain ⟨y3, s3, rfl, hx5⟩ := lenS hx4
  obtain ⟨y4, s4, rfl, hx6⟩ := lenS hx5
  obtain ⟨y5, s5, rfl, hx7⟩ := lenS hx6
  obtain ⟨y6, rfl⟩ := len1 hx7
  have g0 : DataW.trod enc Try.prog w 0 spare held n 3 (([c0, c1, c2, c3, c4, c5, c6, c7].drop 0).take (Try.prog.cellsOf 3)) = some y0 := hf 0 _ rfl
  have g1 : DataW.trod enc Try.prog w 0 spare held n 3 (([c0, c1, c2, c3, c4, c5, c6, c7].drop 1).take (Try.prog.cellsOf 3)) = some y1 := hf 1 _ rfl
  have g2 : DataW.trod enc Try.prog w 0 spare held n 3 (([c0, c1, c2, c3, c4, c5, c6, c7].drop 2).take (Try.prog.cellsOf 3)) = some y2 := hf 2 _ rfl
  have g3 : DataW.trod enc Try.prog w 0 spare held n 3 (([c0, c1, c2, c3, c4, c5, c6, c7].drop 3).take (Try.prog.cellsOf 3)) = some y3 := hf 3 _ rfl
  have g4 : DataW.trod enc Try.prog w 0 spare held n 23 (([c0, c1, c2, c3, c4, c5, c6, c7].drop 4).take (Try.prog.cellsOf 23)) = some y4 := hf 4 _ rfl
  have g5 : DataW.trod enc Try.prog w 0 spare held n 24 (([c0, c1, c2, c3, c4, c5, c6, c7].drop 6).take (Try.prog.cellsOf 24)) = some y5 := hf 5 _ rfl
  have g6 : DataW.trod enc Try.prog w 0 spare held n 25 (([c0, c1, c2, c3, c4, c5, c6, c7].drop 7).take (Try.prog.cellsOf 25)) = some y6 := hf 6 _ rfl
  rw [show Try.prog.cellsOf 3 = 1 from opens_Int.2.1] at g0
  obtain ⟨a0, q0, f0, b0⟩ := opens_Int.2.2.2 _ _ _ _ _ _ _ _ g0
  obtain ⟨e0, i0⟩ := q0
  injection e0 with e0; subst e0
  rw [show Try.prog.cellsOf 3 = 1 from opens_Int.2.1] at g1
  obtain ⟨a1, q1, f1, b1⟩ := opens_Int.2.2.2 _ _ _ _ _ _ _ _ g1
  obtain ⟨e1, i1⟩ := q1
  injection e1 with e1; subst e1
  rw [show Try.prog.cellsOf 3 = 1 from opens_Int.2.1] at g2
  obtain ⟨a2, q2, f2, b2⟩ := opens_Int.2.2.2 _ _ _ _ _ _ _ _ g2
  obtain ⟨e2, i2⟩ := q2
  injection e2 with e2; subst e2
  rw [show Try.prog.cellsOf 3 = 1 from opens_Int.2.1] at g3
  obtain ⟨a3, q3, f3, b3⟩ := opens_Int.2.2.2 _ _ _ _ _ _ _ _ g3
  obtain ⟨e3, i3⟩ := q3
  injection e3 with e3; subst e3
  rw [show Try.prog.cellsOf 23 = 2 from opens_P_Val.2.1] at g4
  obtain ⟨a4, q4, f4, b4⟩ := opens_P_Val.2.2.2 _ _ _ _ _ _ _ _ g4
  obtain ⟨e4, i4⟩ := q4
  injection e4 with e4 k4; injection k4 with k4; subst e4 k4
  rw [show Try.prog.cellsOf 24 = 1 from opens_P_Val_l.2.1] at g5
  obtain ⟨a5, q5, f5, b5⟩ := opens_P_Val_l.2.2.2 _ _ _ _ _ _ _ _ g5
  rw [show Try.prog.cellsOf 25 = 1 from opens_P_Try_l.2.1] at g6
  obtain ⟨a6, q6, f6, b6⟩ := opens_P_Try_l.2.2.2 _ _ _ _ _ _ _ _ g6
  refine ⟨⟨a0, a1, a2, a3, a4, a5, a6⟩, ⟨c6, c7, rfl, i0, i1, i2, i3, i4.1, i4.2, q5, q6⟩, fun M hM => ⟨f5 M fun m hm => hM m (by simp [DataW.weights, DataW.weightsEach, Try.underlying27, hm]), f6 M fun m hm => hM m (by simp [DataW.weights, DataW.weightsEach, Try.underlying27, hm])⟩, ?_⟩
  have t_ : Meas.blk a0 ≤ Rows.uptoBulk y0.1 ∧ Meas.blk a1 ≤ Rows.uptoBulk y1.1 ∧ Meas.blk a2 ≤ Rows.uptoBulk y2.1 ∧ Meas.blk a3 ≤ Rows.uptoBulk y3.1 ∧ Meas.blk a4 ≤ Rows.uptoBulk y4.1 ∧ Meas.blk a5 ≤ Rows.uptoBulk y5.1 ∧ Meas.blk a6 ≤ Rows.uptoBulk y6.1 := ⟨b0, b1, b2, b3, b4, b5, b6⟩
  show 1 + 1 + 1 + 1 + 1 + 3 + Meas.blk a5 + Meas.blk a6 ≤ _
  have z0 : 1 ≤ Rows.uptoBulk y0.1 := b0
  have z1 : 1 ≤ Rows.uptoBulk y1.1 := b1
  have z2 : 1 ≤ Rows.uptoBulk y2.1 := b2
  have z3 : 1 ≤ Rows.uptoBulk y3.1 := b3
  have z4 : 3 ≤ Rows.uptoBulk y4.1 := b4
  simp only [Rows.uptoBulk, Rows.uptoBulkAll, List.map_cons, List.map_nil]
  omega
theorem opens_Fr_l : Opens (List Fr) Try.prog 50 := opens_list Try.underlying50 (by kernel_rfl) (by kernel_rfl) opens_Fr

theorem opens_P_TSet : Opens (Int × Int) Try.prog 38 := by
  refine ⟨by kernel_rfl, by kernel_rfl, by decide, ?_⟩
  intro H enc w spare held fuel cs x h
  obtain ⟨xs, n, -, rfl, hl, hxl, hf⟩ := DataW.trod_struct Try.underlying38 h
  have hl' : cs.length = 1 + 1 := hl.trans (by kernel_rfl)
  have hxl' : xs.length = 1 + 1 := hxl
  obtain ⟨c0, r, rfl, hl2⟩ := lenS hl'
  obtain ⟨c1, rfl⟩ := len1 hl2
  obtain ⟨y0, s, rfl, hxl2⟩ := lenS hxl'
  obtain ⟨y1, rfl⟩ := len1 hxl2
  have g0 : DataW.trod enc Try.prog w 0 spare held n 3 (([c0, c1].drop 0).take (Try.prog.cellsOf 3)) = some y0 := hf 0 _ rfl
  have g1 : DataW.trod enc Try.prog w 0 spare held n 3 (([c0, c1].drop 1).take (Try.prog.cellsOf 3)) = some y1 := hf 1 _ rfl
  rw [show Try.prog.cellsOf 3 = 1 from opens_Int.2.1] at g0 g1
  obtain ⟨a0, ⟨e0, i0⟩, -, -⟩ := opens_Int.2.2.2 _ _ _ _ _ _ _ _ g0
  obtain ⟨a1, ⟨e1, i1⟩, -, -⟩ := opens_Int.2.2.2 _ _ _ _ _ _ _ _ g1
  injection e0 with e0; subst e0
  injection e1 with e1; subst e1
  refine ⟨(a0, a1), ⟨rfl, i0, i1⟩, fun _ _ => trivial, ?_⟩
  have b0 := bulk_pos y0.1
  have b1 := bulk_pos y1.1
  simp only [Meas.blk, Rows.uptoBulk, Rows.uptoBulkAll, List.map_cons, List.map_nil]
  omega
theorem opens_P_TSet_l : Opens (List (Int × Int)) Try.prog 28 := opens_list Try.underlying28 (by kernel_rfl) (by kernel_rfl) opens_P_TSet

theorem opens_LInt : Opens (List Int) Try.prog 40 := opens_list Try.underlying40 (by kernel_rfl) (by kernel_rfl) opens_Int

instance : Meas Mk where
  bytes := 48
  fits M x := Meas.fits M x.vals
  blk x := 1 + 1 + 1 + 1 + Meas.blk x.vals
instance : Inhabited Mk := ⟨⟨default, default, default, default⟩⟩
theorem opens_Mk : Opens Mk Try.prog 54 := by
  refine ⟨by kernel_rfl, by kernel_rfl, by decide, ?_⟩
  intro H enc w spare held fuel cs x h
  obtain ⟨xs, n, -, rfl, hl, hxl, hf⟩ := DataW.trod_struct Try.underlying54 h
  have hl1 : cs.length = 3 + 1 := hl.trans (by kernel_rfl)
  have hx1 : xs.length = 3 + 1 := hxl
  obtain ⟨c0, r0, rfl, hl2⟩ := lenS hl1
  obtain ⟨c1, r1, rfl, hl3⟩ := lenS hl2
  obtain ⟨c2, r2, rfl, hl4⟩ := lenS hl3
  obtain ⟨c3, rfl⟩ := len1 hl4
  obtain ⟨y0, s0, rfl, hx2⟩ := lenS hx1
  obtain ⟨y1, s1, rfl, hx3⟩ := lenS hx2
  obtain ⟨y2, s2, rfl, hx4⟩ := lenS hx3
  obtain ⟨y3, rfl⟩ := len1 hx4
  have g0 : DataW.trod enc Try.prog w 0 spare held n 3 (([c0, c1, c2, c3].drop 0).take (Try.prog.cellsOf 3)) = some y0 := hf 0 _ rfl
  have g1 : DataW.trod enc Try.prog w 0 spare held n 3 (([c0, c1, c2, c3].drop 1).take (Try.prog.cellsOf 3)) = some y1 := hf 1 _ rfl
  have g2 : DataW.trod enc Try.prog w 0 spare held n 3 (([c0, c1, c2, c3].drop 2).take (Try.prog.cellsOf 3)) = some y2 := hf 2 _ rfl
  have g3 : DataW.trod enc Try.prog w 0 spare held n 40 (([c0, c1, c2, c3].drop 3).take (Try.prog.cellsOf 40)) = some y3 := hf 3 _ rfl
  rw [show Try.prog.cellsOf 3 = 1 from opens_Int.2.1] at g0
  obtain ⟨a0, q0, f0, b0⟩ := opens_Int.2.2.2 _ _ _ _ _ _ _ _ g0
  obtain ⟨e0, i0⟩ := q0
  injection e0 with e0; subst e0
  rw [show Try.prog.cellsOf 3 = 1 from opens_Int.2.1] at g1
  obtain ⟨a1, q1, f1, b1⟩ := opens_Int.2.2.2 _ _ _ _ _ _ _ _ g1
  obtain ⟨e1, i1⟩ := q1
  injection e1 with e1; subst e1
  rw [show Try.prog.cellsOf 3 = 1 from opens_Int.2.1] at g2
  obtain ⟨a2, q2, f2, b2⟩ := opens_Int.2.2.2 _ _ _ _ _ _ _ _ g2
  obtain ⟨e2, i2⟩ := q2
  injection e2 with e2; subst e2
  rw [show Try.prog.cellsOf 40 = 1 from opens_LInt.2.1] at g3
  obtain ⟨a3, q3, f3, b3⟩ := opens_LInt.2.2.2 _ _ _ _ _ _ _ _ g3
  refine ⟨⟨a0, a1, a2, a3⟩, ⟨c3, rfl, i0, i1, i2, q3⟩, fun M hM => f3 M fun m hm => hM m (by simp [DataW.weights, DataW.weightsEach, Try.underlying54, hm]), ?_⟩
  have t_ : Meas.blk a0 ≤ Rows.uptoBulk y0.1 ∧ Meas.blk a1 ≤ Rows.uptoBulk y1.1 ∧ Meas.blk a2 ≤ Rows.uptoBulk y2.1 ∧ Meas.blk a3 ≤ Rows.uptoBulk y3.1 := ⟨b0, b1, b2, b3⟩
  show 1 + 1 + 1 + 1 + Meas.blk a3 ≤ _
  have z0 : 1 ≤ Rows.uptoBulk y0.1 := b0
  have z1 : 1 ≤ Rows.uptoBulk y1.1 := b1
  have z2 : 1 ≤ Rows.uptoBulk y2.1 := b2
  simp only [Rows.uptoBulk, Rows.uptoBulkAll, List.map_cons, List.map_nil]
  omega
theorem opens_Mk_l : Opens (List Mk) Try.prog 29 := opens_list Try.underlying29 (by kernel_rfl) (by kernel_rfl) opens_Mk

instance : Meas Ex where
  bytes := 64
  fits M x := Meas.fits M x.sets ∧ Meas.fits M x.makes
  blk x := 1 + 1 + 1 + Meas.blk x.sets + Meas.blk x.makes
instance : Inhabited Ex := ⟨⟨default, default, default, default⟩⟩
theorem opens_Ex : Opens Ex Try.prog 31 := by
  refine ⟨by kernel_rfl, by kernel_rfl, by decide, ?_⟩
  intro H enc w spare held fuel cs x h
  obtain ⟨xs, n, -, rfl, hl, hxl, hf⟩ := DataW.trod_struct Try.underlying31 h
  have hl1 : cs.length = 3 + 1 := hl.trans (by kernel_rfl)
  have hx1 : xs.length = 3 + 1 := hxl
  obtain ⟨c0, r0, rfl, hl2⟩ := lenS hl1
  obtain ⟨c1, r1, rfl, hl3⟩ := lenS hl2
  obtain ⟨c2, r2, rfl, hl4⟩ := lenS hl3
  obtain ⟨c3, rfl⟩ := len1 hl4
  obtain ⟨y0, s0, rfl, hx2⟩ := lenS hx1
  obtain ⟨y1, s1, rfl, hx3⟩ := lenS hx2
  obtain ⟨y2, s2, rfl, hx4⟩ := lenS hx3
  obtain ⟨y3, rfl⟩ := len1 hx4
  have g0 : DataW.trod enc Try.prog w 0 spare held n 3 (([c0, c1, c2, c3].drop 0).take (Try.prog.cellsOf 3)) = some y0 := hf 0 _ rfl
  have g1 : DataW.trod enc Try.prog w 0 spare held n 3 (([c0, c1, c2, c3].drop 1).take (Try.prog.cellsOf 3)) = some y1 := hf 1 _ rfl
  have g2 : DataW.trod enc Try.prog w 0 spare held n 28 (([c0, c1, c2, c3].drop 2).take (Try.prog.cellsOf 28)) = some y2 := hf 2 _ rfl
  have g3 : DataW.trod enc Try.prog w 0 spare held n 29 (([c0, c1, c2, c3].drop 3).take (Try.prog.cellsOf 29)) = some y3 := hf 3 _ rfl
  rw [show Try.prog.cellsOf 3 = 1 from opens_Int.2.1] at g0
  obtain ⟨a0, q0, f0, b0⟩ := opens_Int.2.2.2 _ _ _ _ _ _ _ _ g0
  obtain ⟨e0, i0⟩ := q0
  injection e0 with e0; subst e0
  rw [show Try.prog.cellsOf 3 = 1 from opens_Int.2.1] at g1
  obtain ⟨a1, q1, f1, b1⟩ := opens_Int.2.2.2 _ _ _ _ _ _ _ _ g1
  obtain ⟨e1, i1⟩ := q1
  injection e1 with e1; subst e1
  rw [show Try.prog.cellsOf 28 = 1 from opens_P_TSet_l.2.1] at g2
  obtain ⟨a2, q2, f2, b2⟩ := opens_P_TSet_l.2.2.2 _ _ _ _ _ _ _ _ g2
  rw [show Try.prog.cellsOf 29 = 1 from opens_Mk_l.2.1] at g3
  obtain ⟨a3, q3, f3, b3⟩ := opens_Mk_l.2.2.2 _ _ _ _ _ _ _ _ g3
  refine ⟨⟨a0, a1, a2, a3⟩, ⟨c2, c3, rfl, i0, i1, q2, q3⟩, fun M hM => ⟨f2 M fun m hm => hM m (by simp [DataW.weights, DataW.weightsEach, Try.underlying31, hm]), f3 M fun m hm => hM m (by simp [DataW.weights, DataW.weightsEach, Try.underlying31, hm])⟩, ?_⟩
  have t_ : Meas.blk a0 ≤ Rows.uptoBulk y0.1 ∧ Meas.blk a1 ≤ Rows.uptoBulk y1.1 ∧ Meas.blk a2 ≤ Rows.uptoBulk y2.1 ∧ Meas.blk a3 ≤ Rows.uptoBulk y3.1 := ⟨b0, b1, b2, b3⟩
  show 1 + 1 + 1 + Meas.blk a2 + Meas.blk a3 ≤ _
  have z0 : 1 ≤ Rows.uptoBulk y0.1 := b0
  have z1 : 1 ≤ Rows.uptoBulk y1.1 := b1
  simp only [Rows.uptoBulk, Rows.uptoBulkAll, List.map_cons, List.map_nil]
  omega
theorem opens_Ex_l : Opens (List Ex) Try.prog 70 := opens_list Try.underlying70 (by kernel_rfl) (by kernel_rfl) opens_Ex

instance : Meas Ce where
  bytes := 64
  fits M x := Meas.fits M x.vals ∧ Meas.fits M x.frames
  blk x := 1 + 1 + 1 + Meas.blk x.vals + Meas.blk x.frames
instance : Inhabited Ce := ⟨⟨default, default, default, default⟩⟩
theorem opens_Ce : Opens Ce Try.prog 52 := by
  refine ⟨by kernel_rfl, by kernel_rfl, by decide, ?_⟩
  intro H enc w spare held fuel cs x h
  obtain ⟨xs, n, -, rfl, hl, hxl, hf⟩ := DataW.trod_struct Try.underlying52 h
  have hl1 : cs.length = 3 + 1 := hl.trans (by kernel_rfl)
  have hx1 : xs.length = 3 + 1 := hxl
  obtain ⟨c0, r0, rfl, hl2⟩ := lenS hl1
  obtain ⟨c1, r1, rfl, hl3⟩ := lenS hl2
  obtain ⟨c2, r2, rfl, hl4⟩ := lenS hl3
  obtain ⟨c3, rfl⟩ := len1 hl4
  obtain ⟨y0, s0, rfl, hx2⟩ := lenS hx1
  obtain ⟨y1, s1, rfl, hx3⟩ := lenS hx2
  obtain ⟨y2, s2, rfl, hx4⟩ := lenS hx3
  obtain ⟨y3, rfl⟩ := len1 hx4
  have g0 : DataW.trod enc Try.prog w 0 spare held n 3 (([c0, c1, c2, c3].drop 0).take (Try.prog.cellsOf 3)) = some y0 := hf 0 _ rfl
  have g1 : DataW.trod enc Try.prog w 0 spare held n 3 (([c0, c1, c2, c3].drop 1).take (Try.prog.cellsOf 3)) = some y1 := hf 1 _ rfl
  have g2 : DataW.trod enc Try.prog w 0 spare held n 24 (([c0, c1, c2, c3].drop 2).take (Try.prog.cellsOf 24)) = some y2 := hf 2 _ rfl
  have g3 : DataW.trod enc Try.prog w 0 spare held n 50 (([c0, c1, c2, c3].drop 3).take (Try.prog.cellsOf 50)) = some y3 := hf 3 _ rfl
  rw [show Try.prog.cellsOf 3 = 1 from opens_Int.2.1] at g0
  obtain ⟨a0, q0, f0, b0⟩ := opens_Int.2.2.2 _ _ _ _ _ _ _ _ g0
  obtain ⟨e0, i0⟩ := q0
  injection e0 with e0; subst e0
  rw [show Try.prog.cellsOf 3 = 1 from opens_Int.2.1] at g1
  obtain ⟨a1, q1, f1, b1⟩ := opens_Int.2.2.2 _ _ _ _ _ _ _ _ g1
  obtain ⟨e1, i1⟩ := q1
  injection e1 with e1; subst e1
  rw [show Try.prog.cellsOf 24 = 1 from opens_P_Val_l.2.1] at g2
  obtain ⟨a2, q2, f2, b2⟩ := opens_P_Val_l.2.2.2 _ _ _ _ _ _ _ _ g2
  rw [show Try.prog.cellsOf 50 = 1 from opens_Fr_l.2.1] at g3
  obtain ⟨a3, q3, f3, b3⟩ := opens_Fr_l.2.2.2 _ _ _ _ _ _ _ _ g3
  refine ⟨⟨a0, a1, a2, a3⟩, ⟨c2, c3, rfl, i0, i1, q2, q3⟩, fun M hM => ⟨f2 M fun m hm => hM m (by simp [DataW.weights, DataW.weightsEach, Try.underlying52, hm]), f3 M fun m hm => hM m (by simp [DataW.weights, DataW.weightsEach, Try.underlying52, hm])⟩, ?_⟩
  have t_ : Meas.blk a0 ≤ Rows.uptoBulk y0.1 ∧ Meas.blk a1 ≤ Rows.uptoBulk y1.1 ∧ Meas.blk a2 ≤ Rows.uptoBulk y2.1 ∧ Meas.blk a3 ≤ Rows.uptoBulk y3.1 := ⟨b0, b1, b2, b3⟩
  show 1 + 1 + 1 + Meas.blk a2 + Meas.blk a3 ≤ _
  have z0 : 1 ≤ Rows.uptoBulk y0.1 := b0
  have z1 : 1 ≤ Rows.uptoBulk y1.1 := b1
  simp only [Rows.uptoBulk, Rows.uptoBulkAll, List.map_cons, List.map_nil]
  omega
theorem opens_Ce_l : Opens (List Ce) Try.prog 46 := opens_list Try.underlying46 (by kernel_rfl) (by kernel_rfl) opens_Ce

instance : Meas TI where
  bytes := 64
  fits M x := True
  blk x := 1 + 1 + 1 + 1 + 1 + 1 + 1 + 3
instance : Inhabited TI := ⟨⟨default, default, default, default, default, default, default⟩⟩
theorem opens_TI : Opens TI Try.prog 121 := by
  refine ⟨by kernel_rfl, by kernel_rfl, by decide, ?_⟩
  intro H enc w spare held fuel cs x h
  obtain ⟨xs, n, -, rfl, hl, hxl, hf⟩ := DataW.trod_struct Try.underlying121 h
  have hl1 : cs.length = 7 + 1 := hl.trans (by kernel_rfl)
  have hx1 : xs.length = 6 + 1 := hxl
  obtain ⟨c0, r0, rfl, hl2⟩ := lenS hl1
  obtain ⟨c1, r1, rfl, hl3⟩ := lenS hl2
  obtain ⟨c2, r2, rfl, hl4⟩ := lenS hl3
  obtain ⟨c3, r3, rfl, hl5⟩ := lenS hl4
  obtain ⟨c4, r4, rfl, hl6⟩ := lenS hl5
  obtain ⟨c5, r5, rfl, hl7⟩ := lenS hl6
  obtain ⟨c6, r6, rfl, hl8⟩ := lenS hl7
  obtain ⟨c7, rfl⟩ := len1 hl8
  obtain ⟨y0, s0, rfl, hx2⟩ := lenS hx1
  obtain ⟨y1, s1, rfl, hx3⟩ := lenS hx2
  obtain ⟨y2, s2, rfl, hx4⟩ := lenS hx3
  obtain ⟨y3, s3, rfl, hx5⟩ := lenS hx4
  obtain ⟨y4, s4, rfl, hx6⟩ := lenS hx5
  obtain ⟨y5, s5, rfl, hx7⟩ := lenS hx6
  obtain ⟨y6, rfl⟩ := len1 hx7
  have g0 : DataW.trod enc Try.prog w 0 spare held n 3 (([c0, c1, c2, c3, c4, c5, c6, c7].drop 0).take (Try.prog.cellsOf 3)) = some y0 := hf 0 _ rfl
  have g1 : DataW.trod enc Try.prog w 0 spare held n 3 (([c0, c1, c2, c3, c4, c5, c6, c7].drop 1).take (Try.prog.cellsOf 3)) = some y1 := hf 1 _ rfl
  have g2 : DataW.trod enc Try.prog w 0 spare held n 3 (([c0, c1, c2, c3, c4, c5, c6, c7].drop 2).take (Try.prog.cellsOf 3)) = some y2 := hf 2 _ rfl
  have g3 : DataW.trod enc Try.prog w 0 spare held n 3 (([c0, c1, c2, c3, c4, c5, c6, c7].drop 3).take (Try.prog.cellsOf 3)) = some y3 := hf 3 _ rfl
  have g4 : DataW.trod enc Try.prog w 0 spare held n 3 (([c0, c1, c2, c3, c4, c5, c6, c7].drop 4).take (Try.prog.cellsOf 3)) = some y4 := hf 4 _ rfl
  have g5 : DataW.trod enc Try.prog w 0 spare held n 3 (([c0, c1, c2, c3, c4, c5, c6, c7].drop 5).take (Try.prog.cellsOf 3)) = some y5 := hf 5 _ rfl
  have g6 : DataW.trod enc Try.prog w 0 spare held n 23 (([c0, c1, c2, c3, c4, c5, c6, c7].drop 6).take (Try.prog.cellsOf 23)) = some y6 := hf 6 _ rfl
  rw [show Try.prog.cellsOf 3 = 1 from opens_Int.2.1] at g0
  obtain ⟨a0, q0, f0, b0⟩ := opens_Int.2.2.2 _ _ _ _ _ _ _ _ g0
  obtain ⟨e0, i0⟩ := q0
  injection e0 with e0; subst e0
  rw [show Try.prog.cellsOf 3 = 1 from opens_Int.2.1] at g1
  obtain ⟨a1, q1, f1, b1⟩ := opens_Int.2.2.2 _ _ _ _ _ _ _ _ g1
  obtain ⟨e1, i1⟩ := q1
  injection e1 with e1; subst e1
  rw [show Try.prog.cellsOf 3 = 1 from opens_Int.2.1] at g2
  obtain ⟨a2, q2, f2, b2⟩ := opens_Int.2.2.2 _ _ _ _ _ _ _ _ g2
  obtain ⟨e2, i2⟩ := q2
  injection e2 with e2; subst e2
  rw [show Try.prog.cellsOf 3 = 1 from opens_Int.2.1] at g3
  obtain ⟨a3, q3, f3, b3⟩ := opens_Int.2.2.2 _ _ _ _ _ _ _ _ g3
  obtain ⟨e3, i3⟩ := q3
  injection e3 with e3; subst e3
  rw [show Try.prog.cellsOf 3 = 1 from opens_Int.2.1] at g4
  obtain ⟨a4, q4, f4, b4⟩ := opens_Int.2.2.2 _ _ _ _ _ _ _ _ g4
  obtain ⟨e4, i4⟩ := q4
  injection e4 with e4; subst e4
  rw [show Try.prog.cellsOf 3 = 1 from opens_Int.2.1] at g5
  obtain ⟨a5, q5, f5, b5⟩ := opens_Int.2.2.2 _ _ _ _ _ _ _ _ g5
  obtain ⟨e5, i5⟩ := q5
  injection e5 with e5; subst e5
  rw [show Try.prog.cellsOf 23 = 2 from opens_P_Val.2.1] at g6
  obtain ⟨a6, q6, f6, b6⟩ := opens_P_Val.2.2.2 _ _ _ _ _ _ _ _ g6
  obtain ⟨e6, i6⟩ := q6
  injection e6 with e6 k6; injection k6 with k6; subst e6 k6
  refine ⟨⟨a0, a1, a2, a3, a4, a5, a6⟩, ⟨rfl, i0, i1, i2, i3, i4, i5, i6.1, i6.2⟩, fun M hM => trivial, ?_⟩
  have t_ : Meas.blk a0 ≤ Rows.uptoBulk y0.1 ∧ Meas.blk a1 ≤ Rows.uptoBulk y1.1 ∧ Meas.blk a2 ≤ Rows.uptoBulk y2.1 ∧ Meas.blk a3 ≤ Rows.uptoBulk y3.1 ∧ Meas.blk a4 ≤ Rows.uptoBulk y4.1 ∧ Meas.blk a5 ≤ Rows.uptoBulk y5.1 ∧ Meas.blk a6 ≤ Rows.uptoBulk y6.1 := ⟨b0, b1, b2, b3, b4, b5, b6⟩
  show 1 + 1 + 1 + 1 + 1 + 1 + 1 + 3 ≤ _
  have z0 : 1 ≤ Rows.uptoBulk y0.1 := b0
  have z1 : 1 ≤ Rows.uptoBulk y1.1 := b1
  have z2 : 1 ≤ Rows.uptoBulk y2.1 := b2
  have z3 : 1 ≤ Rows.uptoBulk y3.1 := b3
  have z4 : 1 ≤ Rows.uptoBulk y4.1 := b4
  have z5 : 1 ≤ Rows.uptoBulk y5.1 := b5
  have z6 : 3 ≤ Rows.uptoBulk y6.1 := b6
  simp only [Rows.uptoBulk, Rows.uptoBulkAll, List.map_cons, List.map_nil]
  omega
theorem opens_TI_l : Opens (List TI) Try.prog 69 := opens_list Try.underlying69 (by kernel_rfl) (by kernel_rfl) opens_TI

instance : Meas TT where
  bytes := 200
  fits M x := Meas.fits M x.ins ∧ Meas.fits M x.exits ∧ Meas.fits M x.turn ∧ Meas.fits M x.back
  blk x := 1 + 1 + 1 + 1 + Meas.blk x.ins + Meas.blk x.exits + Meas.blk x.turn + Meas.blk x.back
instance : Inhabited TT := ⟨⟨default, default, default, default, default, default, default⟩⟩
theorem opens_TT : Opens TT Try.prog 72 := by
  refine ⟨by kernel_rfl, by kernel_rfl, by decide, ?_⟩
  intro H enc w spare held fuel cs x h
  obtain ⟨xs, n, -, rfl, hl, hxl, hf⟩ := DataW.trod_struct Try.underlying72 h
  have hl1 : cs.length = 12 + 1 := hl.trans (by kernel_rfl)
  have hx1 : xs.length = 6 + 1 := hxl
  obtain ⟨c0, r0, rfl, hl2⟩ := lenS hl1
  obtain ⟨c1, r1, rfl, hl3⟩ := lenS hl2
  obtain ⟨c2, r2, rfl, hl4⟩ := lenS hl3
  obtain ⟨c3, r3, rfl, hl5⟩ := lenS hl4
  obtain ⟨c4, r4, rfl, hl6⟩ := lenS hl5
  obtain ⟨c5, r5, rfl, hl7⟩ := lenS hl6
  obtain ⟨c6, r6, rfl, hl8⟩ := lenS hl7
  obtain ⟨c7, r7, rfl, hl9⟩ := lenS hl8
  obtain ⟨c8, r8, rfl, hl10⟩ := lenS hl9
  obtain ⟨c9, r9, rfl, hl11⟩ := lenS hl10
  obtain ⟨c10, r10, rfl, hl12⟩ := lenS hl11
  obtain ⟨c11, r11, rfl, hl13⟩ := lenS hl12
  obtain ⟨c12, rfl⟩ := len1 hl13
  obtain ⟨y0, s0, rfl, hx2⟩ := lenS hx1
  obtain ⟨y1, s1, rfl, hx3⟩ := lenS hx2
  obtain ⟨y2, s2, rfl, hx4⟩ := lenS hx3
  obtain ⟨y3, s3, rfl, hx5⟩ := lenS hx4
  obtain ⟨y4, s4, rfl, hx6⟩ := lenS hx5
  obtain ⟨y5, s5, rfl, hx7⟩ := lenS hx6
  obtain ⟨y6, rfl⟩ := len1 hx7
  have g0 : DataW.trod enc Try.prog w 0 spare held n 3 (([c0, c1, c2, c3, c4, c5, c6, c7, c8, c9, c10, c11, c12].drop 0).take (Try.prog.cellsOf 3)) = some y0 := hf 0 _ rfl
  have g1 : DataW.trod enc Try.prog w 0 spare held n 3 (([c0, c1, c2, c3, c4, c5, c6, c7, c8, c9, c10, c11, c12].drop 1).take (Try.prog.cellsOf 3)) = some y1 := hf 1 _ rfl
  have g2 : DataW.trod enc Try.prog w 0 spare held n 3 (([c0, c1, c2, c3, c4, c5, c6, c7, c8, c9, c10, c11, c12].drop 2).take (Try.prog.cellsOf 3)) = some y2 := hf 2 _ rfl
  have g3 : DataW.trod enc Try.prog w 0 spare held n 69 (([c0, c1, c2, c3, c4, c5, c6, c7, c8, c9, c10, c11, c12].drop 3).take (Try.prog.cellsOf 69)) = some y3 := hf 3 _ rfl
  have g4 : DataW.trod enc Try.prog w 0 spare held n 70 (([c0, c1, c2, c3, c4, c5, c6, c7, c8, c9, c10, c11, c12].drop 4).take (Try.prog.cellsOf 70)) = some y4 := hf 4 _ rfl
  have g5 : DataW.trod enc Try.prog w 0 spare held n 31 (([c0, c1, c2, c3, c4, c5, c6, c7, c8, c9, c10, c11, c12].drop 5).take (Try.prog.cellsOf 31)) = some y5 := hf 5 _ rfl
  have g6 : DataW.trod enc Try.prog w 0 spare held n 31 (([c0, c1, c2, c3, c4, c5, c6, c7, c8, c9, c10, c11, c12].drop 9).take (Try.prog.cellsOf 31)) = some y6 := hf 6 _ rfl
  rw [show Try.prog.cellsOf 3 = 1 from opens_Int.2.1] at g0
  obtain ⟨a0, q0, f0, b0⟩ := opens_Int.2.2.2 _ _ _ _ _ _ _ _ g0
  obtain ⟨e0, i0⟩ := q0
  injection e0 with e0; subst e0
  rw [show Try.prog.cellsOf 3 = 1 from opens_Int.2.1] at g1
  obtain ⟨a1, q1, f1, b1⟩ := opens_Int.2.2.2 _ _ _ _ _ _ _ _ g1
  obtain ⟨e1, i1⟩ := q1
  injection e1 with e1; subst e1
  rw [show Try.prog.cellsOf 3 = 1 from opens_Int.2.1] at g2
  obtain ⟨a2, q2, f2, b2⟩ := opens_Int.2.2.2 _ _ _ _ _ _ _ _ g2
  obtain ⟨e2, i2⟩ := q2
  injection e2 with e2; subst e2
  rw [show Try.prog.cellsOf 69 = 1 from opens_TI_l.2.1] at g3
  obtain ⟨a3, q3, f3, b3⟩ := opens_TI_l.2.2.2 _ _ _ _ _ _ _ _ g3
  rw [show Try.prog.cellsOf 70 = 1 from opens_Ex_l.2.1] at g4
  obtain ⟨a4, q4, f4, b4⟩ := opens_Ex_l.2.2.2 _ _ _ _ _ _ _ _ g4
  rw [show Try.prog.cellsOf 31 = 4 from opens_Ex.2.1] at g5
  obtain ⟨a5, q5, f5, b5⟩ := opens_Ex.2.2.2 _ _ _ _ _ _ _ _ g5
  rw [show Try.prog.cellsOf 31 = 4 from opens_Ex.2.1] at g6
  obtain ⟨a6, q6, f6, b6⟩ := opens_Ex.2.2.2 _ _ _ _ _ _ _ _ g6
  refine ⟨⟨a0, a1, a2, a3, a4, a5, a6⟩, ⟨c3, c4, [c5, c6, c7, c8], [c9, c10, c11, c12], rfl, i0, i1, i2, q3, q4, q5, q6⟩, fun M hM => ⟨f3 M fun m hm => hM m (by simp [DataW.weights, DataW.weightsEach, Try.underlying72, hm]), f4 M fun m hm => hM m (by simp [DataW.weights, DataW.weightsEach, Try.underlying72, hm]), f5 M fun m hm => hM m (by simp [DataW.weights, DataW.weightsEach, Try.underlying72, hm]), f6 M fun m hm => hM m (by simp [DataW.weights, DataW.weightsEach, Try.underlying72, hm])⟩, ?_⟩
  have t_ : Meas.blk a0 ≤ Rows.uptoBulk y0.1 ∧ Meas.blk a1 ≤ Rows.uptoBulk y1.1 ∧ Meas.blk a2 ≤ Rows.uptoBulk y2.1 ∧ Meas.blk a3 ≤ Rows.uptoBulk y3.1 ∧ Meas.blk a4 ≤ Rows.uptoBulk y4.1 ∧ Meas.blk a5 ≤ Rows.uptoBulk y5.1 ∧ Meas.blk a6 ≤ Rows.uptoBulk y6.1 := ⟨b0, b1, b2, b3, b4, b5, b6⟩
  show 1 + 1 + 1 + 1 + Meas.blk a3 + Meas.blk a4 + Meas.blk a5 + Meas.blk a6 ≤ _
  have z0 : 1 ≤ Rows.uptoBulk y0.1 := b0
  have z1 : 1 ≤ Rows.uptoBulk y1.1 := b1
  have z2 : 1 ≤ Rows.uptoBulk y2.1 := b2
  simp only [Rows.uptoBulk, Rows.uptoBulkAll, List.map_cons, List.map_nil]
  omega

instance : Meas RO where
  bytes := 64
  fits M x := True
  blk x := 1 + 1 + 1 + 1 + 1 + 1 + 1 + 3
instance : Inhabited RO := ⟨⟨default, default, default, default, default, default, default⟩⟩
theorem opens_RO : Opens RO Try.prog 146 := by
  refine ⟨by kernel_rfl, by kernel_rfl, by decide, ?_⟩
  intro H enc w spare held fuel cs x h
  obtain ⟨xs, n, -, rfl, hl, hxl, hf⟩ := DataW.trod_struct Try.underlying146 h
  have hl1 : cs.length = 7 + 1 := hl.trans (by kernel_rfl)
  have hx1 : xs.length = 6 + 1 := hxl
  obtain ⟨c0, r0, rfl, hl2⟩ := lenS hl1
  obtain ⟨c1, r1, rfl, hl3⟩ := lenS hl2
  obtain ⟨c2, r2, rfl, hl4⟩ := lenS hl3
  obtain ⟨c3, r3, rfl, hl5⟩ := lenS hl4
  obtain ⟨c4, r4, rfl, hl6⟩ := lenS hl5
  obtain ⟨c5, r5, rfl, hl7⟩ := lenS hl6
  obtain ⟨c6, r6, rfl, hl8⟩ := lenS hl7
  obtain ⟨c7, rfl⟩ := len1 hl8
  obtain ⟨y0, s0, rfl, hx2⟩ := lenS hx1
  obtain ⟨y1, s1, rfl, hx3⟩ := lenS hx2
  obtain ⟨y2, s2, rfl, hx4⟩ := lenS hx3
  obtain ⟨y3, s3, rfl, hx5⟩ := lenS hx4
  obtain ⟨y4, s4, rfl, hx6⟩ := lenS hx5
  obtain ⟨y5, s5, rfl, hx7⟩ := lenS hx6
  obtain ⟨y6, rfl⟩ := len1 hx7
  have g0 : DataW.trod enc Try.prog w 0 spare held n 3 (([c0, c1, c2, c3, c4, c5, c6, c7].drop 0).take (Try.prog.cellsOf 3)) = some y0 := hf 0 _ rfl
  have g1 : DataW.trod enc Try.prog w 0 spare held n 3 (([c0, c1, c2, c3, c4, c5, c6, c7].drop 1).take (Try.prog.cellsOf 3)) = some y1 := hf 1 _ rfl
  have g2 : DataW.trod enc Try.prog w 0 spare held n 3 (([c0, c1, c2, c3, c4, c5, c6, c7].drop 2).take (Try.prog.cellsOf 3)) = some y2 := hf 2 _ rfl
  have g3 : DataW.trod enc Try.prog w 0 spare held n 3 (([c0, c1, c2, c3, c4, c5, c6, c7].drop 3).take (Try.prog.cellsOf 3)) = some y3 := hf 3 _ rfl
  have g4 : DataW.trod enc Try.prog w 0 spare held n 3 (([c0, c1, c2, c3, c4, c5, c6, c7].drop 4).take (Try.prog.cellsOf 3)) = some y4 := hf 4 _ rfl
  have g5 : DataW.trod enc Try.prog w 0 spare held n 3 (([c0, c1, c2, c3, c4, c5, c6, c7].drop 5).take (Try.prog.cellsOf 3)) = some y5 := hf 5 _ rfl
  have g6 : DataW.trod enc Try.prog w 0 spare held n 23 (([c0, c1, c2, c3, c4, c5, c6, c7].drop 6).take (Try.prog.cellsOf 23)) = some y6 := hf 6 _ rfl
  rw [show Try.prog.cellsOf 3 = 1 from opens_Int.2.1] at g0
  obtain ⟨a0, q0, f0, b0⟩ := opens_Int.2.2.2 _ _ _ _ _ _ _ _ g0
  obtain ⟨e0, i0⟩ := q0
  injection e0 with e0; subst e0
  rw [show Try.prog.cellsOf 3 = 1 from opens_Int.2.1] at g1
  obtain ⟨a1, q1, f1, b1⟩ := opens_Int.2.2.2 _ _ _ _ _ _ _ _ g1
  obtain ⟨e1, i1⟩ := q1
  injection e1 with e1; subst e1
  rw [show Try.prog.cellsOf 3 = 1 from opens_Int.2.1] at g2
  obtain ⟨a2, q2, f2, b2⟩ := opens_Int.2.2.2 _ _ _ _ _ _ _ _ g2
  obtain ⟨e2, i2⟩ := q2
  injection e2 with e2; subst e2
  rw [show Try.prog.cellsOf 3 = 1 from opens_Int.2.1] at g3
  obtain ⟨a3, q3, f3, b3⟩ := opens_Int.2.2.2 _ _ _ _ _ _ _ _ g3
  obtain ⟨e3, i3⟩ := q3
  injection e3 with e3; subst e3
  rw [show Try.prog.cellsOf 3 = 1 from opens_Int.2.1] at g4
  obtain ⟨a4, q4, f4, b4⟩ := opens_Int.2.2.2 _ _ _ _ _ _ _ _ g4
  obtain ⟨e4, i4⟩ := q4
  injection e4 with e4; subst e4
  rw [show Try.prog.cellsOf 3 = 1 from opens_Int.2.1] at g5
  obtain ⟨a5, q5, f5, b5⟩ := opens_Int.2.2.2 _ _ _ _ _ _ _ _ g5
  obtain ⟨e5, i5⟩ := q5
  injection e5 with e5; subst e5
  rw [show Try.prog.cellsOf 23 = 2 from opens_P_Val.2.1] at g6
  obtain ⟨a6, q6, f6, b6⟩ := opens_P_Val.2.2.2 _ _ _ _ _ _ _ _ g6
  obtain ⟨e6, i6⟩ := q6
  injection e6 with e6 k6; injection k6 with k6; subst e6 k6
  refine ⟨⟨a0, a1, a2, a3, a4, a5, a6⟩, ⟨rfl, i0, i1, i2, i3, i4, i5, i6.1, i6.2⟩, fun M hM => trivial, ?_⟩
  have t_ : Meas.blk a0 ≤ Rows.uptoBulk y0.1 ∧ Meas.blk a1 ≤ Rows.uptoBulk y1.1 ∧ Meas.blk a2 ≤ Rows.uptoBulk y2.1 ∧ Meas.blk a3 ≤ Rows.uptoBulk y3.1 ∧ Meas.blk a4 ≤ Rows.uptoBulk y4.1 ∧ Meas.blk a5 ≤ Rows.uptoBulk y5.1 ∧ Meas.blk a6 ≤ Rows.uptoBulk y6.1 := ⟨b0, b1, b2, b3, b4, b5, b6⟩
  show 1 + 1 + 1 + 1 + 1 + 1 + 1 + 3 ≤ _
  have z0 : 1 ≤ Rows.uptoBulk y0.1 := b0
  have z1 : 1 ≤ Rows.uptoBulk y1.1 := b1
  have z2 : 1 ≤ Rows.uptoBulk y2.1 := b2
  have z3 : 1 ≤ Rows.uptoBulk y3.1 := b3
  have z4 : 1 ≤ Rows.uptoBulk y4.1 := b4
  have z5 : 1 ≤ Rows.uptoBulk y5.1 := b5
  have z6 : 3 ≤ Rows.uptoBulk y6.1 := b6
  simp only [Rows.uptoBulk, Rows.uptoBulkAll, List.map_cons, List.map_nil]
  omega
theorem opens_RO_l : Opens (List RO) Try.prog 97 := opens_list Try.underlying97 (by kernel_rfl) (by kernel_rfl) opens_RO

theorem opens_P_RPlace : Opens (Int × Int) Try.prog 90 := by
  refine ⟨by kernel_rfl, by kernel_rfl, by decide, ?_⟩
  intro H enc w spare held fuel cs x h
  obtain ⟨xs, n, -, rfl, hl, hxl, hf⟩ := DataW.trod_struct Try.underlying90 h
  have hl' : cs.length = 1 + 1 := hl.trans (by kernel_rfl)
  have hxl' : xs.length = 1 + 1 := hxl
  obtain ⟨c0, r, rfl, hl2⟩ := lenS hl'
  obtain ⟨c1, rfl⟩ := len1 hl2
  obtain ⟨y0, s, rfl, hxl2⟩ := lenS hxl'
  obtain ⟨y1, rfl⟩ := len1 hxl2
  have g0 : DataW.trod enc Try.prog w 0 spare held n 3 (([c0, c1].drop 0).take (Try.prog.cellsOf 3)) = some y0 := hf 0 _ rfl
  have g1 : DataW.trod enc Try.prog w 0 spare held n 3 (([c0, c1].drop 1).take (Try.prog.cellsOf 3)) = some y1 := hf 1 _ rfl
  rw [show Try.prog.cellsOf 3 = 1 from opens_Int.2.1] at g0 g1
  obtain ⟨a0, ⟨e0, i0⟩, -, -⟩ := opens_Int.2.2.2 _ _ _ _ _ _ _ _ g0
  obtain ⟨a1, ⟨e1, i1⟩, -, -⟩ := opens_Int.2.2.2 _ _ _ _ _ _ _ _ g1
  injection e0 with e0; subst e0
  injection e1 with e1; subst e1
  refine ⟨(a0, a1), ⟨rfl, i0, i1⟩, fun _ _ => trivial, ?_⟩
  have b0 := bulk_pos y0.1
  have b1 := bulk_pos y1.1
  simp only [Meas.blk, Rows.uptoBulk, Rows.uptoBulkAll, List.map_cons, List.map_nil]
  omega
theorem opens_P_RPlace_l : Opens (List (Int × Int)) Try.prog 83 := opens_list Try.underlying83 (by kernel_rfl) (by kernel_rfl) opens_P_RPlace

theorem opens_T3 : Opens (Int × Int × Int) Try.prog 186 := by
  refine ⟨by kernel_rfl, by kernel_rfl, by decide, ?_⟩
  intro H enc w spare held fuel cs x h
  obtain ⟨xs, n, -, rfl, hl, hxl, hf⟩ := DataW.trod_struct Try.underlying186 h
  have hl' : cs.length = 2 + 1 := hl.trans (by kernel_rfl)
  have hxl' : xs.length = 1 + 1 := hxl
  obtain ⟨c0, r, rfl, hl2⟩ := lenS hl'
  obtain ⟨c1, r2, rfl, hl3⟩ := lenS hl2
  obtain ⟨c2, rfl⟩ := len1 hl3
  obtain ⟨y0, s, rfl, hxl2⟩ := lenS hxl'
  obtain ⟨y1, rfl⟩ := len1 hxl2
  have g0 : DataW.trod enc Try.prog w 0 spare held n 3 (([c0, c1, c2].drop 0).take (Try.prog.cellsOf 3)) = some y0 := hf 0 _ rfl
  have g1 : DataW.trod enc Try.prog w 0 spare held n 90 (([c0, c1, c2].drop 1).take (Try.prog.cellsOf 90)) = some y1 := hf 1 _ rfl
  rw [show Try.prog.cellsOf 3 = 1 from opens_Int.2.1] at g0
  rw [show Try.prog.cellsOf 90 = 2 from opens_P_RPlace.2.1] at g1
  obtain ⟨a0, ⟨e0, i0⟩, -, -⟩ := opens_Int.2.2.2 _ _ _ _ _ _ _ _ g0
  obtain ⟨a1, ⟨e1, i1⟩, -, b1⟩ := opens_P_RPlace.2.2.2 _ _ _ _ _ _ _ _ g1
  injection e0 with e0; subst e0
  injection e1 with e1 e2; injection e2 with e2; subst e1 e2
  refine ⟨(a0, a1), ⟨rfl, i0, i1.1, i1.2⟩, fun _ _ => trivial, ?_⟩
  have b0 := bulk_pos y0.1
  simp only [Meas.blk, Rows.uptoBulk, Rows.uptoBulkAll, List.map_cons, List.map_nil] at b1 ⊢
  omega
theorem opens_T3_l : Opens (List (Int × Int × Int)) Try.prog 99 := opens_list Try.underlying99 (by kernel_rfl) (by kernel_rfl) opens_T3

instance : Meas RM where
  bytes := 56
  fits M x := Meas.fits M x.vals
  blk x := 1 + 3 + 1 + 1 + Meas.blk x.vals
instance : Inhabited RM := ⟨⟨default, default, default, default⟩⟩
theorem opens_RM : Opens RM Try.prog 189 := by
  refine ⟨by kernel_rfl, by kernel_rfl, by decide, ?_⟩
  intro H enc w spare held fuel cs x h
  obtain ⟨xs, n, -, rfl, hl, hxl, hf⟩ := DataW.trod_struct Try.underlying189 h
  have hl1 : cs.length = 4 + 1 := hl.trans (by kernel_rfl)
  have hx1 : xs.length = 3 + 1 := hxl
  obtain ⟨c0, r0, rfl, hl2⟩ := lenS hl1
  obtain ⟨c1, r1, rfl, hl3⟩ := lenS hl2
  obtain ⟨c2, r2, rfl, hl4⟩ := lenS hl3
  obtain ⟨c3, r3, rfl, hl5⟩ := lenS hl4
  obtain ⟨c4, rfl⟩ := len1 hl5
  obtain ⟨y0, s0, rfl, hx2⟩ := lenS hx1
  obtain ⟨y1, s1, rfl, hx3⟩ := lenS hx2
  obtain ⟨y2, s2, rfl, hx4⟩ := lenS hx3
  obtain ⟨y3, rfl⟩ := len1 hx4
  have g0 : DataW.trod enc Try.prog w 0 spare held n 90 (([c0, c1, c2, c3, c4].drop 0).take (Try.prog.cellsOf 90)) = some y0 := hf 0 _ rfl
  have g1 : DataW.trod enc Try.prog w 0 spare held n 3 (([c0, c1, c2, c3, c4].drop 2).take (Try.prog.cellsOf 3)) = some y1 := hf 1 _ rfl
  have g2 : DataW.trod enc Try.prog w 0 spare held n 3 (([c0, c1, c2, c3, c4].drop 3).take (Try.prog.cellsOf 3)) = some y2 := hf 2 _ rfl
  have g3 : DataW.trod enc Try.prog w 0 spare held n 83 (([c0, c1, c2, c3, c4].drop 4).take (Try.prog.cellsOf 83)) = some y3 := hf 3 _ rfl
  rw [show Try.prog.cellsOf 90 = 2 from opens_P_RPlace.2.1] at g0
  obtain ⟨a0, q0, f0, b0⟩ := opens_P_RPlace.2.2.2 _ _ _ _ _ _ _ _ g0
  obtain ⟨e0, i0⟩ := q0
  injection e0 with e0 k0; injection k0 with k0; subst e0 k0
  rw [show Try.prog.cellsOf 3 = 1 from opens_Int.2.1] at g1
  obtain ⟨a1, q1, f1, b1⟩ := opens_Int.2.2.2 _ _ _ _ _ _ _ _ g1
  obtain ⟨e1, i1⟩ := q1
  injection e1 with e1; subst e1
  rw [show Try.prog.cellsOf 3 = 1 from opens_Int.2.1] at g2
  obtain ⟨a2, q2, f2, b2⟩ := opens_Int.2.2.2 _ _ _ _ _ _ _ _ g2
  obtain ⟨e2, i2⟩ := q2
  injection e2 with e2; subst e2
  rw [show Try.prog.cellsOf 83 = 1 from opens_P_RPlace_l.2.1] at g3
  obtain ⟨a3, q3, f3, b3⟩ := opens_P_RPlace_l.2.2.2 _ _ _ _ _ _ _ _ g3
  refine ⟨⟨a0, a1, a2, a3⟩, ⟨c4, rfl, i0.1, i0.2, i1, i2, q3⟩, fun M hM => f3 M fun m hm => hM m (by simp [DataW.weights, DataW.weightsEach, Try.underlying189, hm]), ?_⟩
  have t_ : Meas.blk a0 ≤ Rows.uptoBulk y0.1 ∧ Meas.blk a1 ≤ Rows.uptoBulk y1.1 ∧ Meas.blk a2 ≤ Rows.uptoBulk y2.1 ∧ Meas.blk a3 ≤ Rows.uptoBulk y3.1 := ⟨b0, b1, b2, b3⟩
  show 1 + 3 + 1 + 1 + Meas.blk a3 ≤ _
  have z0 : 3 ≤ Rows.uptoBulk y0.1 := b0
  have z1 : 1 ≤ Rows.uptoBulk y1.1 := b1
  have z2 : 1 ≤ Rows.uptoBulk y2.1 := b2
  simp only [Rows.uptoBulk, Rows.uptoBulkAll, List.map_cons, List.map_nil]
  omega
theorem opens_RM_l : Opens (List RM) Try.prog 100 := opens_list Try.underlying100 (by kernel_rfl) (by kernel_rfl) opens_RM

instance : Meas RE where
  bytes := 64
  fits M x := Meas.fits M x.sets ∧ Meas.fits M x.makes
  blk x := 1 + 1 + 1 + Meas.blk x.sets + Meas.blk x.makes
instance : Inhabited RE := ⟨⟨default, default, default, default⟩⟩
theorem opens_RE : Opens RE Try.prog 102 := by
  refine ⟨by kernel_rfl, by kernel_rfl, by decide, ?_⟩
  intro H enc w spare held fuel cs x h
  obtain ⟨xs, n, -, rfl, hl, hxl, hf⟩ := DataW.trod_struct Try.underlying102 h
  have hl1 : cs.length = 3 + 1 := hl.trans (by kernel_rfl)
  have hx1 : xs.length = 3 + 1 := hxl
  obtain ⟨c0, r0, rfl, hl2⟩ := lenS hl1
  obtain ⟨c1, r1, rfl, hl3⟩ := lenS hl2
  obtain ⟨c2, r2, rfl, hl4⟩ := lenS hl3
  obtain ⟨c3, rfl⟩ := len1 hl4
  obtain ⟨y0, s0, rfl, hx2⟩ := lenS hx1
  obtain ⟨y1, s1, rfl, hx3⟩ := lenS hx2
  obtain ⟨y2, s2, rfl, hx4⟩ := lenS hx3
  obtain ⟨y3, rfl⟩ := len1 hx4
  have g0 : DataW.trod enc Try.prog w 0 spare held n 3 (([c0, c1, c2, c3].drop 0).take (Try.prog.cellsOf 3)) = some y0 := hf 0 _ rfl
  have g1 : DataW.trod enc Try.prog w 0 spare held n 3 (([c0, c1, c2, c3].drop 1).take (Try.prog.cellsOf 3)) = some y1 := hf 1 _ rfl
  have g2 : DataW.trod enc Try.prog w 0 spare held n 99 (([c0, c1, c2, c3].drop 2).take (Try.prog.cellsOf 99)) = some y2 := hf 2 _ rfl
  have g3 : DataW.trod enc Try.prog w 0 spare held n 100 (([c0, c1, c2, c3].drop 3).take (Try.prog.cellsOf 100)) = some y3 := hf 3 _ rfl
  rw [show Try.prog.cellsOf 3 = 1 from opens_Int.2.1] at g0
  obtain ⟨a0, q0, f0, b0⟩ := opens_Int.2.2.2 _ _ _ _ _ _ _ _ g0
  obtain ⟨e0, i0⟩ := q0
  injection e0 with e0; subst e0
  rw [show Try.prog.cellsOf 3 = 1 from opens_Int.2.1] at g1
  obtain ⟨a1, q1, f1, b1⟩ := opens_Int.2.2.2 _ _ _ _ _ _ _ _ g1
  obtain ⟨e1, i1⟩ := q1
  injection e1 with e1; subst e1
  rw [show Try.prog.cellsOf 99 = 1 from opens_T3_l.2.1] at g2
  obtain ⟨a2, q2, f2, b2⟩ := opens_T3_l.2.2.2 _ _ _ _ _ _ _ _ g2
  rw [show Try.prog.cellsOf 100 = 1 from opens_RM_l.2.1] at g3
  obtain ⟨a3, q3, f3, b3⟩ := opens_RM_l.2.2.2 _ _ _ _ _ _ _ _ g3
  refine ⟨⟨a0, a1, a2, a3⟩, ⟨c2, c3, rfl, i0, i1, q2, q3⟩, fun M hM => ⟨f2 M fun m hm => hM m (by simp [DataW.weights, DataW.weightsEach, Try.underlying102, hm]), f3 M fun m hm => hM m (by simp [DataW.weights, DataW.weightsEach, Try.underlying102, hm])⟩, ?_⟩
  have t_ : Meas.blk a0 ≤ Rows.uptoBulk y0.1 ∧ Meas.blk a1 ≤ Rows.uptoBulk y1.1 ∧ Meas.blk a2 ≤ Rows.uptoBulk y2.1 ∧ Meas.blk a3 ≤ Rows.uptoBulk y3.1 := ⟨b0, b1, b2, b3⟩
  show 1 + 1 + 1 + Meas.blk a2 + Meas.blk a3 ≤ _
  have z0 : 1 ≤ Rows.uptoBulk y0.1 := b0
  have z1 : 1 ≤ Rows.uptoBulk y1.1 := b1
  simp only [Rows.uptoBulk, Rows.uptoBulkAll, List.map_cons, List.map_nil]
  omega
theorem opens_RE_l : Opens (List RE) Try.prog 98 := opens_list Try.underlying98 (by kernel_rfl) (by kernel_rfl) opens_RE

instance : Meas RC where
  bytes := 208
  fits M x := Meas.fits M x.orders ∧ Meas.fits M x.exits ∧ Meas.fits M x.turn ∧ Meas.fits M x.back
  blk x := 1 + 1 + 1 + 1 + 1 + Meas.blk x.orders + Meas.blk x.exits + Meas.blk x.turn + Meas.blk x.back
instance : Inhabited RC := ⟨⟨default, default, default, default, default, default, default, default⟩⟩
theorem opens_RC : Opens RC Try.prog 104 := by
  refine ⟨by kernel_rfl, by kernel_rfl, by decide, ?_⟩
  intro H enc w spare held fuel cs x h
  obtain ⟨xs, n, -, rfl, hl, hxl, hf⟩ := DataW.trod_struct Try.underlying104 h
  have hl1 : cs.length = 13 + 1 := hl.trans (by kernel_rfl)
  have hx1 : xs.length = 7 + 1 := hxl
  obtain ⟨c0, r0, rfl, hl2⟩ := lenS hl1
  obtain ⟨c1, r1, rfl, hl3⟩ := lenS hl2
  obtain ⟨c2, r2, rfl, hl4⟩ := lenS hl3
  obtain ⟨c3, r3, rfl, hl5⟩ := lenS hl4
  obtain ⟨c4, r4, rfl, hl6⟩ := lenS hl5
  obtain ⟨c5, r5, rfl, hl7⟩ := lenS hl6
  obtain ⟨c6, r6, rfl, hl8⟩ := lenS hl7
  obtain ⟨c7, r7, rfl, hl9⟩ := lenS hl8
  obtain ⟨c8, r8, rfl, hl10⟩ := lenS hl9
  obtain ⟨c9, r9, rfl, hl11⟩ := lenS hl10
  obtain ⟨c10, r10, rfl, hl12⟩ := lenS hl11
  obtain ⟨c11, r11, rfl, hl13⟩ := lenS hl12
  obtain ⟨c12, r12, rfl, hl14⟩ := lenS hl13
  obtain ⟨c13, rfl⟩ := len1 hl14
  obtain ⟨y0, s0, rfl, hx2⟩ := lenS hx1
  obtain ⟨y1, s1, rfl, hx3⟩ := lenS hx2
  obtain ⟨y2, s2, rfl, hx4⟩ := lenS hx3
  obtain ⟨y3, s3, rfl, hx5⟩ := lenS hx4
  obtain ⟨y4, s4, rfl, hx6⟩ := lenS hx5
  obtain ⟨y5, s5, rfl, hx7⟩ := lenS hx6
  obtain ⟨y6, s6, rfl, hx8⟩ := lenS hx7
  obtain ⟨y7, rfl⟩ := len1 hx8
  have g0 : DataW.trod enc Try.prog w 0 spare held n 3 (([c0, c1, c2, c3, c4, c5, c6, c7, c8, c9, c10, c11, c12, c13].drop 0).take (Try.prog.cellsOf 3)) = some y0 := hf 0 _ rfl
  have g1 : DataW.trod enc Try.prog w 0 spare held n 3 (([c0, c1, c2, c3, c4, c5, c6, c7, c8, c9, c10, c11, c12, c13].drop 1).take (Try.prog.cellsOf 3)) = some y1 := hf 1 _ rfl
  have g2 : DataW.trod enc Try.prog w 0 spare held n 3 (([c0, c1, c2, c3, c4, c5, c6, c7, c8, c9, c10, c11, c12, c13].drop 2).take (Try.prog.cellsOf 3)) = some y2 := hf 2 _ rfl
  have g3 : DataW.trod enc Try.prog w 0 spare held n 3 (([c0, c1, c2, c3, c4, c5, c6, c7, c8, c9, c10, c11, c12, c13].drop 3).take (Try.prog.cellsOf 3)) = some y3 := hf 3 _ rfl
  have g4 : DataW.trod enc Try.prog w 0 spare held n 97 (([c0, c1, c2, c3, c4, c5, c6, c7, c8, c9, c10, c11, c12, c13].drop 4).take (Try.prog.cellsOf 97)) = some y4 := hf 4 _ rfl
  have g5 : DataW.trod enc Try.prog w 0 spare held n 98 (([c0, c1, c2, c3, c4, c5, c6, c7, c8, c9, c10, c11, c12, c13].drop 5).take (Try.prog.cellsOf 98)) = some y5 := hf 5 _ rfl
  have g6 : DataW.trod enc Try.prog w 0 spare held n 102 (([c0, c1, c2, c3, c4, c5, c6, c7, c8, c9, c10, c11, c12, c13].drop 6).take (Try.prog.cellsOf 102)) = some y6 := hf 6 _ rfl
  have g7 : DataW.trod enc Try.prog w 0 spare held n 102 (([c0, c1, c2, c3, c4, c5, c6, c7, c8, c9, c10, c11, c12, c13].drop 10).take (Try.prog.cellsOf 102)) = some y7 := hf 7 _ rfl
  rw [show Try.prog.cellsOf 3 = 1 from opens_Int.2.1] at g0
  obtain ⟨a0, q0, f0, b0⟩ := opens_Int.2.2.2 _ _ _ _ _ _ _ _ g0
  obtain ⟨e0, i0⟩ := q0
  injection e0 with e0; subst e0
  rw [show Try.prog.cellsOf 3 = 1 from opens_Int.2.1] at g1
  obtain ⟨a1, q1, f1, b1⟩ := opens_Int.2.2.2 _ _ _ _ _ _ _ _ g1
  obtain ⟨e1, i1⟩ := q1
  injection e1 with e1; subst e1
  rw [show Try.prog.cellsOf 3 = 1 from opens_Int.2.1] at g2
  obtain ⟨a2, q2, f2, b2⟩ := opens_Int.2.2.2 _ _ _ _ _ _ _ _ g2
  obtain ⟨e2, i2⟩ := q2
  injection e2 with e2; subst e2
  rw [show Try.prog.cellsOf 3 = 1 from opens_Int.2.1] at g3
  obtain ⟨a3, q3, f3, b3⟩ := opens_Int.2.2.2 _ _ _ _ _ _ _ _ g3
  obtain ⟨e3, i3⟩ := q3
  injection e3 with e3; subst e3
  rw [show Try.prog.cellsOf 97 = 1 from opens_RO_l.2.1] at g4
  obtain ⟨a4, q4, f4, b4⟩ := opens_RO_l.2.2.2 _ _ _ _ _ _ _ _ g4
  rw [show Try.prog.cellsOf 98 = 1 from opens_RE_l.2.1] at g5
  obtain ⟨a5, q5, f5, b5⟩ := opens_RE_l.2.2.2 _ _ _ _ _ _ _ _ g5
  rw [show Try.prog.cellsOf 102 = 4 from opens_RE.2.1] at g6
  obtain ⟨a6, q6, f6, b6⟩ := opens_RE.2.2.2 _ _ _ _ _ _ _ _ g6
  rw [show Try.prog.cellsOf 102 = 4 from opens_RE.2.1] at g7
  obtain ⟨a7, q7, f7, b7⟩ := opens_RE.2.2.2 _ _ _ _ _ _ _ _ g7
  refine ⟨⟨a0, a1, a2, a3, a4, a5, a6, a7⟩, ⟨c4, c5, [c6, c7, c8, c9], [c10, c11, c12, c13], rfl, i0, i1, i2, i3, q4, q5, q6, q7⟩, fun M hM => ⟨f4 M fun m hm => hM m (by simp [DataW.weights, DataW.weightsEach, Try.underlying104, hm]), f5 M fun m hm => hM m (by simp [DataW.weights, DataW.weightsEach, Try.underlying104, hm]), f6 M fun m hm => hM m (by simp [DataW.weights, DataW.weightsEach, Try.underlying104, hm]), f7 M fun m hm => hM m (by simp [DataW.weights, DataW.weightsEach, Try.underlying104, hm])⟩, ?_⟩
  have t_ : Meas.blk a0 ≤ Rows.uptoBulk y0.1 ∧ Meas.blk a1 ≤ Rows.uptoBulk y1.1 ∧ Meas.blk a2 ≤ Rows.uptoBulk y2.1 ∧ Meas.blk a3 ≤ Rows.uptoBulk y3.1 ∧ Meas.blk a4 ≤ Rows.uptoBulk y4.1 ∧ Meas.blk a5 ≤ Rows.uptoBulk y5.1 ∧ Meas.blk a6 ≤ Rows.uptoBulk y6.1 ∧ Meas.blk a7 ≤ Rows.uptoBulk y7.1 := ⟨b0, b1, b2, b3, b4, b5, b6, b7⟩
  show 1 + 1 + 1 + 1 + 1 + Meas.blk a4 + Meas.blk a5 + Meas.blk a6 + Meas.blk a7 ≤ _
  have z0 : 1 ≤ Rows.uptoBulk y0.1 := b0
  have z1 : 1 ≤ Rows.uptoBulk y1.1 := b1
  have z2 : 1 ≤ Rows.uptoBulk y2.1 := b2
  have z3 : 1 ≤ Rows.uptoBulk y3.1 := b3
  simp only [Rows.uptoBulk, Rows.uptoBulkAll, List.map_cons, List.map_nil]
  omega

theorem opens_P_RMove : Opens (Int × Int) Try.prog 62 := by
  refine ⟨by kernel_rfl, by kernel_rfl, by decide, ?_⟩
  intro H enc w spare held fuel cs x h
  obtain ⟨xs, n, -, rfl, hl, hxl, hf⟩ := DataW.trod_struct Try.underlying62 h
  have hl' : cs.length = 1 + 1 := hl.trans (by kernel_rfl)
  have hxl' : xs.length = 1 + 1 := hxl
  obtain ⟨c0, r, rfl, hl2⟩ := lenS hl'
  obtain ⟨c1, rfl⟩ := len1 hl2
  obtain ⟨y0, s, rfl, hxl2⟩ := lenS hxl'
  obtain ⟨y1, rfl⟩ := len1 hxl2
  have g0 : DataW.trod enc Try.prog w 0 spare held n 3 (([c0, c1].drop 0).take (Try.prog.cellsOf 3)) = some y0 := hf 0 _ rfl
  have g1 : DataW.trod enc Try.prog w 0 spare held n 3 (([c0, c1].drop 1).take (Try.prog.cellsOf 3)) = some y1 := hf 1 _ rfl
  rw [show Try.prog.cellsOf 3 = 1 from opens_Int.2.1] at g0 g1
  obtain ⟨a0, ⟨e0, i0⟩, -, -⟩ := opens_Int.2.2.2 _ _ _ _ _ _ _ _ g0
  obtain ⟨a1, ⟨e1, i1⟩, -, -⟩ := opens_Int.2.2.2 _ _ _ _ _ _ _ _ g1
  injection e0 with e0; subst e0
  injection e1 with e1; subst e1
  refine ⟨(a0, a1), ⟨rfl, i0, i1⟩, fun _ _ => trivial, ?_⟩
  have b0 := bulk_pos y0.1
  have b1 := bulk_pos y1.1
  simp only [Meas.blk, Rows.uptoBulk, Rows.uptoBulkAll, List.map_cons, List.map_nil]
  omega
theorem opens_P_RMove_l : Opens (List (Int × Int)) Try.prog 56 := opens_list Try.underlying56 (by kernel_rfl) (by kernel_rfl) opens_P_RMove

theorem opens_P_RSpan : Opens (Int × Int) Try.prog 78 := by
  refine ⟨by kernel_rfl, by kernel_rfl, by decide, ?_⟩
  intro H enc w spare held fuel cs x h
  obtain ⟨xs, n, -, rfl, hl, hxl, hf⟩ := DataW.trod_struct Try.underlying78 h
  have hl' : cs.length = 1 + 1 := hl.trans (by kernel_rfl)
  have hxl' : xs.length = 1 + 1 := hxl
  obtain ⟨c0, r, rfl, hl2⟩ := lenS hl'
  obtain ⟨c1, rfl⟩ := len1 hl2
  obtain ⟨y0, s, rfl, hxl2⟩ := lenS hxl'
  obtain ⟨y1, rfl⟩ := len1 hxl2
  have g0 : DataW.trod enc Try.prog w 0 spare held n 3 (([c0, c1].drop 0).take (Try.prog.cellsOf 3)) = some y0 := hf 0 _ rfl
  have g1 : DataW.trod enc Try.prog w 0 spare held n 3 (([c0, c1].drop 1).take (Try.prog.cellsOf 3)) = some y1 := hf 1 _ rfl
  rw [show Try.prog.cellsOf 3 = 1 from opens_Int.2.1] at g0 g1
  obtain ⟨a0, ⟨e0, i0⟩, -, -⟩ := opens_Int.2.2.2 _ _ _ _ _ _ _ _ g0
  obtain ⟨a1, ⟨e1, i1⟩, -, -⟩ := opens_Int.2.2.2 _ _ _ _ _ _ _ _ g1
  injection e0 with e0; subst e0
  injection e1 with e1; subst e1
  refine ⟨(a0, a1), ⟨rfl, i0, i1⟩, fun _ _ => trivial, ?_⟩
  have b0 := bulk_pos y0.1
  have b1 := bulk_pos y1.1
  simp only [Meas.blk, Rows.uptoBulk, Rows.uptoBulkAll, List.map_cons, List.map_nil]
  omega
theorem opens_P_RSpan_l : Opens (List (Int × Int)) Try.prog 74 := opens_list Try.underlying74 (by kernel_rfl) (by kernel_rfl) opens_P_RSpan

end Go.Proofs.Ytljdnadejmkaeaa

/-
  From a law's walk to its row: the arguments read as they did; the law's post.
-/
namespace Go.Proofs.Ytljdnadejmkaeaa
open Go.RowKit Go.ChangeShapes Go.WideShapes Go.Deep

theorem prog_own : ownKnob Try.prog.godebug = none := by kernel_rfl
theorem prog_laidOut : laidOutB Try.prog = true := by kernel_rfl

theorem trodAll_below {H : Type} {enc : TypeId × Value → H} {P : Program} {W W' : World} (hl : laidOutB P = true) (hb : Below W.heap.size W W') :
    ∀ {ts : List TypeId} {vs : List Value} {ds : List (DataW H)} {ps : List MemPlace}, ts.all (fun t => P.readableRec t && decide (t < P.types.size)) = true →
      DataW.TrodAll enc P W 0 (fun _ => true) true ts vs ds ps → (∀ x ∈ ps, x.block < W.heap.size) → DataW.TrodAll enc P W' 0 (fun b => decide (b < W.heap.size)) true ts vs ds ps
  | [], [], [], ps, _, h, _ => h
  | t :: ts, v :: vs, d :: ds, ps, hr, h, hlt => by
    obtain ⟨p, q, h1, h2, rfl⟩ := h
    rw [List.all_cons, Bool.and_eq_true, Bool.and_eq_true, decide_eq_true_eq] at hr
    exact ⟨p, q, Below.trod hl hr.1.1 hr.1.2 h1 hb (fun x hx => hlt x (List.mem_append_left _ hx)), trodAll_below hl hb hr.2 h2 (fun x hx => hlt x (List.mem_append_right _ hx)), rfl⟩
  | [], _ :: _, _, _, _, h, _ => by simp [DataW.TrodAll] at h
  | [], [], _ :: _, _, _, h, _ => by simp [DataW.TrodAll] at h
  | _ :: _, [], _, _, _, h, _ => by simp [DataW.TrodAll] at h
  | _ :: _, _ :: _, [], _, _, h, _ => by simp [DataW.TrodAll] at h

/-- a law's post: it returned true, and nothing that was there has turned -/
theorem post_law {H : Type} {enc : TypeId × Value → H} {P : Program} {f : Func} {s : ChangeSpec} {W W' : World} {args : Array Value} {ds : List (DataW H)} {before : List MemPlace} {bt : TypeId}
    (hW : DataW.Whole enc P f.params.toList s.vars false W args.toList ds [] before) (hvars : s.vars = []) (hfn : s.fn H (ds ++ []) = { results := [.lit (.bool true)], args := ds }) (hres : f.resultTypes = #[bt])
    (hbt : P.underlying bt = some .bool) (hl : laidOutB P = true) (hr : f.params.toList.all (fun t => P.readableRec t && decide (t < P.types.size)) = true) (hb : Below W.heap.size W W') :
    s.post enc P f false true false false W args (.bool true) W' := by
  have hlt : ∀ x ∈ before, x.block < W.heap.size := fun x hx => hW.lt x hx
  have hW' := hW
  obtain ⟨p, q, hA, hV, rfl, -, -⟩ := hW
  rw [hvars] at hV
  obtain ⟨-, rfl⟩ := trodVars_none hV
  refine ⟨ds, [], _, [], p, [], hW', ?_, ?_, ?_, hb.frame _, fun h => by cases h⟩
  · rw [hfn, hres]
    exact trodAll_mk1 (shut_bool hbt true)
  · rw [hfn]
    exact trodAll_below hl hb hr hA (fun x hx => hlt x (by simpa using hx))
  · rw [hfn, hvars]
    rfl

/-- every weight of an argument's reading is within the reach -/
theorem weigh {H : Type} {P : Program} {ts : List TypeId} {ds : List (DataW H)} (h : (DataW.weightsEach P ts ds).all (· ≤ reachBytes) = true) {j : Nat} {t : TypeId} {d : DataW H} (ht : ts[j]? = some t) (hd : ds[j]? = some d) :
    ∀ n ∈ d.weights P t, n ≤ reachBytes := fun n hn => by
  have := List.all_eq_true.1 h n (DataW.weights_mem_each ht hd n hn)
  simpa using this

theorem agg_of {P : Program} {w : World} {r : Reach} {b : Nat} {t : TypeId} {fs : Array Field} {v : Value} (hs : P.underlying t = some (.struct fs)) (hv : Value.okWide P w r b t v) {l : List Value} (h : v.cells.toList = l) : v = .agg l.toArray := by
  obtain ⟨cs, rfl, -⟩ := okWide_struct hs hv
  subst h
  simp [Value.cells]
theorem slice_of {P : Program} {w : World} {r : Reach} {b : Nat} {t e : TypeId} {v u : Value} (hs : P.underlying t = some (.slice e)) (hv : Value.okWide P w r b t v) (h : v.cells.toList = [u]) : v = u := by
  obtain ⟨a, n, c, rfl⟩ := okWide_slice hs hv
  simpa [Value.cells] using h

end Go.Proofs.Ytljdnadejmkaeaa
