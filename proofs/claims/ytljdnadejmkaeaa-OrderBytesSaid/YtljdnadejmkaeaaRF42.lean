/- RF: Ord16. -/
import Derived.Test.YtljdnadejmkaeaaRF30
import Derived.Test.YtljdnadejmkaeaaRF40
import Derived.Test.YtljdnadejmkaeaaRF41
/- order.Encode. -/
namespace Go.Proofs.Ytljdnadejmkaeaa
open Go.RowKit
attribute [local go_sem ↓] Go.wp_at_zero Go.wp_at_succ

/-! ### slices.Clone at exits -/
set_option maxRecDepth 100000 in
theorem cloneRE_any (A : Option Addr) (c B n : Nat) (l : List (Raw 4)) (w : World) (hn : l.length = n) (h : At w B A l) (hB : B ≤ w.heap.size) (hl : n * 64 ≤ 140737488355328) :
    Calls Try.prog 89 #[.slice A n c] w fun e w' => ∃ A' c', e = .returned (.slice A' n c') ∧ Own w' w.heap.size 102 A' c' l ∧ Below w.heap.size w w' := by
  obtain ⟨i0, hi, hz0, hz1, hz2⟩ := info_parts infoRExit
  subst hn
  cases A with
  | none =>
    have hnil : l = [] := h.nil_len
    subst hnil
    have heq := fun w => run_eql_nil_slice w 98 102 none 0 c 0 0 Try.underlying98
    have heq2 := fun w => Lib.run_eql_slice_nil w 98 102 none 0 c 0 0 Try.underlying98
    go_enter Try.func89, Try.ntmps89
    go_wp2
    go_ret
    exact ⟨none, 0, rfl, Own.nil_, Below.refl _ _⟩
  | some a =>
    have heq2 := fun w => Lib.run_eql_slice_nil w 98 102 (some a) l.length c 0 0 Try.underlying98
    have H := Lib.hid h; clear h
    go_enter Try.func89, Try.ntmps89
    go_wp2_with (at_builtin; go_must (refine wpList_app (α := Raw 4) (n := 0) rfl (.tmp 5) (.tmp 6) _ rfl w.heap.size 102 i0 _ 64 Try.underlying98 hi hz0 hz1 hz2 rfl (by decide) raw_one (by rfl) rfl (own_new0 w _ _ _ rfl (Nat.le_refl _)) (by rfl) ((H.out).keep (fun p hp => World.cell?_alloc_lt w _ p (by omega))) rfl (by omega) (by simp only [maxLen]; omega) (by simp) ?_); intro A1 c1 w1 hown hgr hat)
    go_ret
    exact ⟨A1, c1, by simp, by simpa using hown, ((Below.refl _ _).alloc (Nat.le_refl _) _).grown hgr (by simp) (by simp [rowOf])⟩

namespace Ord
theorem makeNums_ok {m : RM} (h : I64 m.cell.1 ∧ I64 m.cell.2 ∧ I64 m.kind ∧ I64 m.num) (hv : ∀ v ∈ m.vals, Flat.ok v) (hl : m.vals.length ≤ 100) : ∀ z ∈ makeNums m, I64 z := by
  intro z hz
  unfold makeNums at hz
  rcases List.mem_append.1 hz with hz | hz
  · simp at hz; rcases hz with rfl | rfl | rfl | rfl | rfl
    · exact h.1
    · exact h.2.1
    · exact h.2.2.1
    · exact h.2.2.2
    · unfold I64; omega
  · obtain ⟨v, hv', hz⟩ := List.mem_flatMap.1 hz
    have := hv v hv'
    simp at hz; rcases hz with rfl | rfl
    · exact this.1
    · exact this.2
theorem exitNums_ok {w : World} {B : Nat} {SA MA : Option Addr} {x : RE} (hs : At w B SA x.sets) (hm : At w B MA x.makes) (hi : I64 x.at_ ∧ I64 x.steps) (hlg : large x = false) : (∀ z ∈ exitNums x, I64 z) ∧ (exitNums x).length ≤ 70000 := by
  obtain ⟨-, h1, h2, h3⟩ := large_no hlg
  constructor
  · intro z hz
    unfold exitNums at hz
    simp only [List.mem_append] at hz
    rcases hz with ((hz | hz) | hz) | hz
    · simp at hz; rcases hz with rfl | rfl | rfl
      · exact hi.1
      · exact hi.2
      · unfold I64; omega
    · obtain ⟨s, hs', hz⟩ := List.mem_flatMap.1 hz
      have := hs.ok_ s hs'
      simp [setNums] at hz; rcases hz with rfl | rfl | rfl
      · exact this.1
      · exact this.2.1
      · exact this.2.2
    · simp at hz; subst hz; unfold I64; omega
    · obtain ⟨m, hm', hz⟩ := List.mem_flatMap.1 hz
      obtain ⟨i, hi'⟩ := List.mem_iff_getElem?.1 hm'
      obtain ⟨b, o, m2, VA, vc, -, -, hx, -, -, -, -, -, av, -, j0, j1, j2, j3⟩ := hm.rM_ (List.getElem?_eq_some_iff.1 hi').1
      obtain rfl : m2 = m := Option.some.inj (hx.symm.trans hi')
      exact makeNums_ok ⟨j0, j1, j2, j3⟩ av.ok_ (h3 m2 hm') z hz
  · unfold exitNums
    simp only [List.length_append, List.length_cons, List.length_nil]
    have a1 := fm_le setNums x.sets 3 (fun s _ => by simp [setNums])
    have a2 := fm_le makeNums x.makes 205 (fun m hm => by
      have := h3 m hm
      have := fm_le (fun v : Int × Int => [v.1, v.2]) m.vals 2 (fun v _ => by simp)
      unfold makeNums
      simp only [List.length_append, List.length_cons, List.length_nil]
      omega)
    have a3 : x.makes.length * 205 ≤ 300 * 205 := Nat.mul_le_mul_right _ h2
    omega
end Ord

theorem cellsC {w : World} {g : Nat} {t : TypeId} {v0 v1 v2 v3 v4 v5 v6 v7 v8 v9 v10 v11 v12 v13 : Value} (h : Blk w g t #[v0, v1, v2, v3, v4, v5, v6, v7, v8, v9, v10, v11, v12, v13]) :
    w.cell? ⟨g, 5, none⟩ = some v5 ∧ w.cell? ⟨g, 6, none⟩ = some v6 ∧ w.cell? ⟨g, 7, none⟩ = some v7 ∧ w.cell? ⟨g, 8, none⟩ = some v8 ∧ w.cell? ⟨g, 9, none⟩ = some v9 ∧ w.cell? ⟨g, 10, none⟩ = some v10 ∧ w.cell? ⟨g, 11, none⟩ = some v11 ∧ w.cell? ⟨g, 12, none⟩ = some v12 ∧ w.cell? ⟨g, 13, none⟩ = some v13 :=
  ⟨h.cell 5 rfl, h.cell 6 rfl, h.cell 7 rfl, h.cell 8 rfl, h.cell 9 rfl, h.cell 10 rfl, h.cell 11 rfl, h.cell 12 rfl, h.cell 13 rfl⟩

theorem rows2_rd {w : World} {B : Nat} {c : RC} {OA EA TS TM BS BM : Option Addr} {tsc tmc bsc bmc : Nat} (h : CdAt w B c OA EA TS TM BS BM tsc tmc bsc bmc) {rs : List (Raw 4)} (hrl : rs.length = c.exits.length)
    (hr : ∀ (i : Nat) (r : Raw 4) (x : RE), rs[i]? = some r → c.exits[i]? = some x → Enc.rd w B r.cs x) (i : Nat) (r : Raw 4) (x : RE) (hri : (rs ++ [(⟨c.turn, TS, tsc, TM, tmc⟩ : ExA).raw, (⟨c.back, BS, bsc, BM, bmc⟩ : ExA).raw])[i]? = some r) (hxi : (c.exits ++ [c.turn, c.back])[i]? = some x) : Enc.rd w B r.cs x := by
  by_cases hi : i < rs.length
  · rw [List.getElem?_append_left hi] at hri
    rw [List.getElem?_append_left (by omega)] at hxi
    exact hr i r x hri hxi
  · rw [List.getElem?_append_right (by omega)] at hri
    rw [List.getElem?_append_right (by omega), ← hrl] at hxi
    generalize i - rs.length = j at hri hxi
    match j with
    | 0 => simp at hri hxi; subst hri hxi; exact h.2.2.1
    | 1 => simp at hri hxi; subst hri hxi; exact h.2.2.2
    | j + 2 => simp at hri
theorem own_keep {α : Type} [Flat α] {w w' : World} {base R : Nat} {e : TypeId} {A : Option Addr} {c : Nat} {l : List α} (h : Own w base e A c l) (hk : BKeep R w w') (he : e ≠ 5) (hR : rowOf A ≠ some R) : Own w' base e A c l :=
  h.block_ fun g hg => by
    rcases h.2 with ⟨h1, _⟩ | ⟨g', cap, cur, hv, _, hh, _⟩
    · injection h1 with h3; rw [h3] at hg; cases hg
    · injection hv with h3; rw [h3] at hg; injection hg with hg; simp only at hg; subst hg
      have hb : Blk w g' e cur := hh
      have := hk g' e cur (fun e2 => hR (by rw [h3, e2]; rfl)) he hb
      exact this.trans hb.symm
theorem exit_cells {w : World} {B : Nat} {r : Raw 4} {x : RE} (h : Enc.rd w B r.cs x) : ∃ (SA : Option Addr) (sc : Nat) (MA : Option Addr) (mc : Nat), r.cs = [.int .i64 x.at_, .int .i64 x.steps, .slice SA x.sets.length sc, .slice MA x.makes.length mc] ∧ At w B SA x.sets ∧ At w B MA x.makes ∧ I64 x.at_ ∧ I64 x.steps := by
  obtain ⟨c6, c7, h0, h1, h2, ⟨A6, d6, e6, l6, m6, -, t6⟩, ⟨A7, d7, e7, l7, m7, -, t7⟩⟩ := h
  injection e6 with e6; injection e7 with e7; subst e6 e7
  exact ⟨A6, d6, A7, d7, h0, t6, t7, h1, h2⟩

def EncPost (c : RC) (w : World) (e : Ending) (w' : World) : Prop := Below w.heap.size w w' ∧
  ((Ord.err c = 0 ∧ ∃ (A : Option Addr) (d : Nat), e = .returned (.tuple #[.slice A (Ord.bys (Ord.numsB (Ord.codeNums c))).length d, .int .i64 0]) ∧ Own w' w.heap.size 5 A d (Ord.bys (Ord.numsB (Ord.codeNums c)))) ∨
    (Ord.err c ≠ 0 ∧ e = .returned (.tuple #[.slice none 0 0, .int .i64 (Ord.err c)])))
theorem Ord.err_ok {c : RC} (h : Ord.err c = 0) : Ord.tooLarge c = false := by
  unfold Ord.err at h
  cases ht : Ord.tooLarge c with
  | false => rfl
  | true => rw [ht] at h; simp at h
theorem Ord.notLarge {c : RC} (h : Ord.tooLarge c = false) : c.orders.length ≤ 1500 ∧ c.exits.length ≤ 200 := by
  unfold Ord.tooLarge at h
  simp only [Bool.or_eq_false_iff, decide_eq_false_iff_not] at h
  omega

set_option maxHeartbeats 6400000 in
set_option maxRecDepth 100000 in
theorem encode_any (B oc ec tsc tmc bsc bmc : Nat) (OA EA TS TM BS BM : Option Addr) (c : RC) (w : World) (h : CdAt w B c OA EA TS TM BS BM tsc tmc bsc bmc) (hB : B ≤ w.heap.size) (hol : c.orders.length ≤ 9223372036854775807) (hel : (c.exits.length + 2) * 64 ≤ 140737488355328)
    (hoi : ∀ x ∈ c.orders, (I64 x.a ∧ I64 x.b ∧ I64 x.c) ∧ I64 x.k.1 ∧ I64 x.k.2) (hci : I64 c.fn ∧ I64 c.at_ ∧ I64 c.loop ∧ I64 c.slots) (hoo : ∀ x ∈ c.orders, I64 x.op ∧ I64 x.n ∧ I64 x.exit) :
    Calls Try.prog 43 #[.agg #[.int .i64 c.fn, .int .i64 c.at_, .int .i64 c.loop, .int .i64 c.slots, .slice OA c.orders.length oc, .slice EA c.exits.length ec, .int .i64 c.turn.at_, .int .i64 c.turn.steps, .slice TS c.turn.sets.length tsc, .slice TM c.turn.makes.length tmc, .int .i64 c.back.at_, .int .i64 c.back.steps, .slice BS c.back.sets.length bsc, .slice BM c.back.makes.length bmc]] w (EncPost c w) := by
  obtain ⟨P, hP⟩ : ∃ P, EncPost c w = P := ⟨_, rfl⟩
  rw [hP]
  obtain ⟨i0, hi, hz0, hz1, hz2⟩ := info_parts infoRExit
  obtain ⟨rs, hrl, hrat, hrr⟩ := h.2.1.raws (n := 4) rfl re_one
  have HP := Lib.hid (And.intro hP.symm (And.intro hoi (And.intro hci hoo))); clear hP hoi hci hoo
  have H := Lib.hid (And.intro h (And.intro hrl (And.intro hrat hrr))); clear h hrl hrat hrr
  go_enter Try.func43, Try.ntmps43
  go_wp2_with (refine wpList_ld rfl 104 (.tmp 1) rfl w.heap.size rfl (Blk.new w _ _) Try.underlying104 rfl (by kernel_rfl) ?_)
  refine calls_world (fun W => Blk W w.heap.size 104 #[.int .i64 c.fn, .int .i64 c.at_, .int .i64 c.loop, .int .i64 c.slots, .slice OA c.orders.length oc, .slice EA c.exits.length ec, .int .i64 c.turn.at_, .int .i64 c.turn.steps, .slice TS c.turn.sets.length tsc, .slice TM c.turn.makes.length tmc, .int .i64 c.back.at_, .int .i64 c.back.steps, .slice BS c.back.sets.length bsc, .slice BM c.back.makes.length bmc] ∧ Below w.heap.size w W ∧ w.heap.size + 1 ≤ W.heap.size) ⟨Blk.new _ _ _, (Below.refl _ _).alloc (Nat.le_refl _) _, by simp⟩ ?_
  rintro W ⟨hC, hb0, hs0⟩
  refine (ocheck_any B oc ec tsc tmc bsc bmc OA EA TS TM BS BM c W (H.out.1.below (hb0.mono hB)) (by omega) hol hel HP.out.2.1).mono ?_
  rintro e w1 ⟨rfl, hb1⟩
  obtain ⟨er, her⟩ : ∃ er, Ord.err c = er := ⟨_, rfl⟩
  rw [her]
  have hs1 := hb1.size
  have hbl1 := hb0.trans (hb1.mono (by omega))
  have H1 := Lib.hid (And.intro (hC.fresh hb1) (And.intro (H.out.1.below (hbl1.mono hB)) (And.intro (H.out.2.2.1.below (hbl1.mono hB)) her))); clear hC her
  by_cases h0 : er = 0
  rotate_left
  · have hne : (er != 0) = true := by simp [h0]
    have HE := Lib.hid h0; clear h0
    go_wp2_with fail
    rw [HP.out.1]
    exact ⟨hbl1, .inr ⟨by rw [H1.out.2.2.2]; exact HE.out, by rw [H1.out.2.2.2]; rfl⟩⟩
  subst h0
  have htl := Ord.err_ok H1.out.2.2.2
  obtain ⟨hol2, hel2⟩ := Ord.notLarge htl
  have HL := Lib.hid (Ord.large_all htl); clear htl
  have hWr : Bw (w1.alloc (.cells #[.slice none 0 0] 149)) w1.heap.size w1.heap.size [] := ⟨none, 0, Blk.new _ _ _, Own.nil_, Nat.le_refl _⟩
  have c0 := H1.out.1.cell 0 (v := .int .i64 c.fn) rfl
  have c1 := H1.out.1.cell 1 (v := .int .i64 c.at_) rfl
  have c2 := H1.out.1.cell 2 (v := .int .i64 c.loop) rfl
  have c3 := H1.out.1.cell 3 (v := .int .i64 c.slots) rfl
  have c4 := H1.out.1.cell 4 (v := .slice OA c.orders.length oc) rfl
  have lt1 : w.heap.size < w1.heap.size := by omega
  have hok5 : ∀ z ∈ [c.fn, c.at_, c.loop, c.slots, (c.orders.length : Int)], I64 z := by
    obtain ⟨j0, j1, j2, j3⟩ := HP.out.2.2.1
    intro z hz; simp at hz; rcases hz with rfl | rfl | rfl | rfl | rfl
    · exact j0
    · exact j1
    · exact j2
    · exact j3
    · unfold I64; omega
  have HW := Lib.hid (And.intro hWr (And.intro hok5 (H1.out.1.alloc (.cells #[.slice none 0 0] 149)))); clear hWr hok5
  go_wp2_with fail
  refine (nums_new w1.heap.size w1.heap.size (w1.heap.size + 1) 5 _ [c.fn, c.at_, c.loop, c.slots, (c.orders.length : Int)] [] (w1.alloc (.cells #[.slice none 0 0] 149)) (by simp) rfl rfl HW.out.2.1 HW.out.1 (by simp)).mono ?_
  rintro en w2 ⟨rfl, hW2, hb2, hk2⟩
  have hC2 := hk2 _ _ _ (by omega) (by decide) HW.out.2.2
  have hbl2 : Below w1.heap.size w1 w2 := ((Below.refl _ _).alloc (Nat.le_refl _) _).trans hb2
  have d4 := hC2.cell 4 (v := .slice OA c.orders.length oc) rfl
  have lt2 := hC2.lt
  have hl2 : ([] ++ Ord.bys (Ord.numsB [c.fn, c.at_, c.loop, c.slots, (c.orders.length : Int)])).length ≤ 50 := by
    have := Ord.nums_bound HW.out.2.1
    simpa using this
  have H2 := Lib.hid (And.intro hW2 (And.intro hC2 hl2)); clear hW2 hC2 hk2 hl2 c0 c1 c2 c3 c4
  go_wp2_with fail
  clear d4
  go_loopg [34] (c.orders.length) (fun gk iv wr => ∃ (k : Nat) (o1 : List U8), k ≤ c.orders.length ∧ gk = c.orders.length - k ∧ iv = .int .i64 k ∧ o1.length ≤ 50 + k * 80 ∧ Hid (o1 = Ord.bys (Ord.numsB ([c.fn, c.at_, c.loop, c.slots, (c.orders.length : Int)] ++ (c.orders.take k).flatMap Ord.orderNums)) ∧ Bw wr w1.heap.size w1.heap.size o1 ∧ Blk wr w.heap.size 104 #[.int .i64 c.fn, .int .i64 c.at_, .int .i64 c.loop, .int .i64 c.slots, .slice OA c.orders.length oc, .slice EA c.exits.length ec, .int .i64 c.turn.at_, .int .i64 c.turn.steps, .slice TS c.turn.sets.length tsc, .slice TM c.turn.makes.length tmc, .int .i64 c.back.at_, .int .i64 c.back.steps, .slice BS c.back.sets.length bsc, .slice BM c.back.makes.length bmc]) ∧ Below w1.heap.size w1 wr ∧ w.heap.size < wr.heap.size)
  case atStart => exact ⟨0, _, Nat.zero_le _, rfl, rfl, by have := H2.out.2.2; omega, ⟨by simp, H2.out.1, H2.out.2.1⟩, hbl2, lt2⟩
  case round =>
    obtain ⟨k, o1, hk, rfl, rfl, ho1, hkeep, hbl, hwl⟩ := hrel
    have hRl := hkeep.out.2.1.lt
    by_cases hlt : k < c.orders.length
    · obtain ⟨b, o, x, rfl, hbB, hx, q0, q1, q2, q3, q4, q5, q6, q7, j0, j1, j2, j3, j4, j5, j6, j7⟩ := (H1.out.2.1.1.below (hbl.mono (by omega))).rO_ hlt
      have hfs := Ord.fm_take Ord.orderNums hx
      have hk0 : (0 : Int) ≤ (k : Int) := by omega
      have hk1 : (k : Int) < (c.orders.length : Int) := by omega
      have hok : ∀ z ∈ Ord.orderNums x, I64 z := by
        intro z hz; simp [Ord.orderNums] at hz; rcases hz with rfl | rfl | rfl | rfl | rfl | rfl | rfl | rfl <;> assumption
      have HX := Lib.hid (And.intro hfs (And.intro hok (And.intro hkeep.out.1 (And.intro (hkeep.out.2.1.alloc (.cells #[.int .i64 x.op, .int .i64 x.a, .int .i64 x.b, .int .i64 x.c, .int .i64 x.n, .int .i64 x.exit, .int .i64 x.k.1, .int .i64 x.k.2] 146)) (hkeep.out.2.2.alloc (.cells #[.int .i64 x.op, .int .i64 x.a, .int .i64 x.b, .int .i64 x.c, .int .i64 x.n, .int .i64 x.exit, .int .i64 x.k.1, .int .i64 x.k.2] 146)))))); clear hfs hok hkeep hx j0 j1 j2 j3 j4 j5 j6 j7
      have hbla : Below w1.heap.size w1 (wr.alloc (.cells #[.int .i64 x.op, .int .i64 x.a, .int .i64 x.b, .int .i64 x.c, .int .i64 x.n, .int .i64 x.exit, .int .i64 x.k.1, .int .i64 x.k.2] 146)) := hbl.alloc (by omega) _
      go_wp2_with fail
      refine (nums_new w1.heap.size w1.heap.size (wr.heap.size + 1) 8 _ (Ord.orderNums x) o1 _ (by simp) rfl rfl HX.out.2.1 HX.out.2.2.2.1 (by omega)).mono ?_
      rintro en w4 ⟨rfl, hW4, hb4, hk4⟩
      have hC4 := hk4 _ _ _ (by omega) (by decide) HX.out.2.2.2.2
      have hbl4 := hbla.trans hb4
      have lt4 := hC4.lt
      have heq : o1 ++ Ord.bys (Ord.numsB (Ord.orderNums x)) = Ord.bys (Ord.numsB ([c.fn, c.at_, c.loop, c.slots, (c.orders.length : Int)] ++ (c.orders.take (k + 1)).flatMap Ord.orderNums)) := by
        rw [HX.out.1, HX.out.2.2.1, ← Ord.bys_nums, List.append_assoc]
      have hl4 : (o1 ++ Ord.bys (Ord.numsB (Ord.orderNums x))).length ≤ 50 + (k + 1) * 80 := by
        rw [List.length_append]
        have := Ord.nums_bound HX.out.2.1
        have h8 : (Ord.orderNums x).length = 8 := rfl
        rw [h8] at this
        omega
      have H4 := Lib.hid (And.intro heq (And.intro hW4 (And.intro hC4 hl4))); clear heq hW4 hC4 hk4 hl4
      go_wp2_with fail
      go_roundg (c.orders.length - (k + 1))
      case measure => omega
      case rel => exact ⟨k + 1, _, by omega, rfl, by go_num, H4.out.2.2.2, ⟨H4.out.1, H4.out.2.1, H4.out.2.2.1⟩, hbl4, lt4⟩
    · have hk2 := hkeep.out
      rw [List.take_of_length_le (by omega)] at hk2
      have c5 := hk2.2.2.cell 5 (v := .slice EA c.exits.length ec) rfl
      have H3 := Lib.hid hk2; clear hk2 hkeep
      have ho1' : o1.length ≤ 130000 := by omega
      clear ho1
      go_wp2_with fail
      refine (nums_new w1.heap.size w1.heap.size wr.heap.size 1 _ [(c.exits.length : Int)] o1 wr rfl rfl rfl (by intro z hz; simp at hz; subst hz; unfold I64; omega) H3.out.2.1 (by omega)).mono ?_
      rintro en w4 ⟨rfl, hW4, hb4, hk4⟩
      have hC4 := hk4 _ _ _ (by omega) (by decide) H3.out.2.2
      have hbl4 := hbl.trans hb4
      have lt4 := hC4.lt
      have hs4 := hbl4.size
      have hl4 : (o1 ++ Ord.bys (Ord.numsB [(c.exits.length : Int)])).length ≤ 130010 := by
        rw [List.length_append]
        have := Ord.nums_bound (l := [(c.exits.length : Int)]) (by intro z hz; simp at hz; subst hz; unfold I64; omega)
        simp only [List.length_cons, List.length_nil] at this
        omega
      have H4 := Lib.hid (And.intro hW4 (And.intro hC4 (And.intro (H1.out.2.1.below (hbl4.mono (by omega))) (H1.out.2.2.1.below (hbl4.mono (by omega)))))); clear hW4 hC4 hk4 c5
      go_upto_region 12 with fail
      go_cut [74, 75, 76] (fun lv nv iv W2 => ∃ (XA : Option Addr) (xc : Nat), lv = .slice XA (c.exits.length + 2) xc ∧ nv = .int .i64 ((c.exits.length + 2 : Nat) : Int) ∧ iv = .int .i64 0 ∧ Hid (Own W2 w4.heap.size 102 XA xc (rs ++ [(⟨c.turn, TS, tsc, TM, tmc⟩ : ExA).raw, (⟨c.back, BS, bsc, BM, bmc⟩ : ExA).raw])) ∧ Below w4.heap.size w4 W2)
      case first =>
        have hLT : (#[.int .i64 c.turn.at_, .int .i64 c.turn.steps, .slice TS c.turn.sets.length tsc, .slice TM c.turn.makes.length tmc, .int .i64 c.back.at_, .int .i64 c.back.steps, .slice BS c.back.sets.length bsc, .slice BM c.back.makes.length bmc] : Array Value).toList = flat [(⟨c.turn, TS, tsc, TM, tmc⟩ : ExA).raw, (⟨c.back, BS, bsc, BM, bmc⟩ : ExA).raw] := rfl
        have HLT := Lib.hid hLT; clear hLT
        have hs4B : B ≤ w4.heap.size := by omega
        refine wp_region_held_drew (S := (fun w' => w'.cell? ⟨w.heap.size, 5, none⟩ = some (.slice EA c.exits.length ec) ∧ w'.cell? ⟨w.heap.size, 6, none⟩ = some (.int .i64 c.turn.at_) ∧ w'.cell? ⟨w.heap.size, 7, none⟩ = some (.int .i64 c.turn.steps) ∧ w'.cell? ⟨w.heap.size, 8, none⟩ = some (.slice TS c.turn.sets.length tsc) ∧ w'.cell? ⟨w.heap.size, 9, none⟩ = some (.slice TM c.turn.makes.length tmc) ∧ w'.cell? ⟨w.heap.size, 10, none⟩ = some (.int .i64 c.back.at_) ∧ w'.cell? ⟨w.heap.size, 11, none⟩ = some (.int .i64 c.back.steps) ∧ w'.cell? ⟨w.heap.size, 12, none⟩ = some (.slice BS c.back.sets.length bsc) ∧ w'.cell? ⟨w.heap.size, 13, none⟩ = some (.slice BM c.back.makes.length bmc))) (by kernel_rfl) ?_ (fun hHeld0 => ?_)
        · first | trivial | ((try dsimp only); (exact cellsC H4.out.2.1))
        refine held_take (v := ?_) 0 rfl (by kernel_rfl) (by kernel_rfl) (by kernel_rfl) (fun _ _ _ h => h) (by rfl) ?_ (by assumption) ?_
        rotate_left
        · (intro w hSw; (try dsimp only at hSw); go_simp; try with_reducible rfl)
        try simp only [Act.put, List.setIfInBounds_toArray, List.set_cons_zero, List.set_cons_succ]
        refine held_take (v := ?_) 1 rfl (by kernel_rfl) (by kernel_rfl) (by kernel_rfl) (fun _ _ _ h => h) (by rfl) ?_ (by assumption) ?_
        rotate_left
        · (intro w hSw; (try dsimp only at hSw); go_simp; try with_reducible rfl)
        try simp only [Act.put, List.setIfInBounds_toArray, List.set_cons_zero, List.set_cons_succ]
        refine held_take (v := ?_) 3 rfl (by kernel_rfl) (by kernel_rfl) (by kernel_rfl) (fun _ _ _ h => h) (by rfl) ?_ (by assumption) ?_
        rotate_left
        · (intro w hSw; (try dsimp only at hSw); go_simp; try with_reducible rfl)
        try simp only [Act.put, List.setIfInBounds_toArray, List.set_cons_zero, List.set_cons_succ]
        refine held_take (v := ?_) 4 rfl (by kernel_rfl) (by kernel_rfl) (by kernel_rfl) (fun _ _ _ h => h) (by rfl) ?_ (by assumption) ?_
        rotate_left
        · (intro w hSw; (try dsimp only at hSw); go_simp; try with_reducible rfl)
        try simp only [Act.put, List.setIfInBounds_toArray, List.set_cons_zero, List.set_cons_succ]
        refine held_take (v := ?_) 5 rfl (by kernel_rfl) (by kernel_rfl) (by kernel_rfl) (fun _ _ _ h => h) (by rfl) ?_ (by assumption) ?_
        rotate_left
        · (intro w hSw; (try dsimp only at hSw); go_simp; try with_reducible rfl)
        try simp only [Act.put, List.setIfInBounds_toArray, List.set_cons_zero, List.set_cons_succ]
        refine held_take (v := ?_) 6 rfl (by kernel_rfl) (by kernel_rfl) (by kernel_rfl) (fun _ _ _ h => h) (by rfl) ?_ (by assumption) ?_
        rotate_left
        · (intro w hSw; (try dsimp only at hSw); go_simp; try with_reducible rfl)
        try simp only [Act.put, List.setIfInBounds_toArray, List.set_cons_zero, List.set_cons_succ]
        refine held_take (v := ?_) 10 rfl (by kernel_rfl) (by kernel_rfl) (by kernel_rfl) (fun _ _ _ h => h) (by rfl) ?_ (by assumption) ?_
        rotate_left
        · (intro w hSw; (try dsimp only at hSw); go_simp; try with_reducible rfl)
        try simp only [Act.put, List.setIfInBounds_toArray, List.set_cons_zero, List.set_cons_succ]
        refine held_call2 2 7 (by kernel_rfl) rfl rfl (fun K hK => ?_) (fun K hK => ?_)
        · go_simp
          go_at_call 89; refine (cloneRE_any EA ec B c.exits.length rs _ H.out.2.1 H4.out.2.2.2.drew hs4B (by omega)).mono ?_; rintro e w5 ⟨A5, d5, rfl, ho5, hb5d⟩; have hb5 : Below w4.heap.size w4 w5 := undrew hb5d; clear hb5d; have hk2 := H4.out.2.1.fresh hb5; have hs5 := hb5.size
          try (go_wp2_with fail)
          refine hK.out _ _ ?_ (fun hHeld1 => ?_)
          · first | trivial | ((try dsimp only); (exact cellsC hk2))
          clear hK K hHeld0
          try simp only [Act.put, List.setIfInBounds_toArray, List.set_cons_zero, List.set_cons_succ]
          refine held_call 7 (by kernel_rfl) rfl (fun K hK => ?_)
          go_simp
          refine hK.out _ _ ?_ (fun hHeld2 => ?_)
          · first | trivial | ((try dsimp only); (exact cellsC (hk2.alloc _)))
          clear hK K hHeld1
          try simp only [Act.put, List.setIfInBounds_toArray, List.set_cons_zero, List.set_cons_succ]
          refine held_call 8 (by kernel_rfl) rfl (fun K hK => ?_)
          refine step_app (α := Raw 4) (n := c.exits.length) (m := 2) (nm := c.exits.length + 2) (B := w5.heap.size + 1) (r := [(⟨c.turn, TS, tsc, TM, tmc⟩ : ExA).raw, (⟨c.back, BS, bsc, BM, bmc⟩ : ExA).raw]) (by rfl) (.tmp 68) (.tmp 73) _ (by rfl) w4.heap.size 102 i0 _ 64 Try.underlying98 hi hz0 hz1 hz2 rfl (by decide) raw_one (by rfl) H.out.2.1 (ho5.alloc _) (by rfl) (At.built w5 _ _ _ HLT.out (fun _ _ => trivial)) rfl rfl (by omega) (by simp only [maxLen]; omega) (by rw [World.size_alloc]; omega) ?_; intro A8 c8 w8 ho8 hgr8 hat8; have hk8 := (hk2.alloc (.cells #[.int .i64 c.turn.at_, .int .i64 c.turn.steps, .slice TS c.turn.sets.length tsc, .slice TM c.turn.makes.length tmc, .int .i64 c.back.at_, .int .i64 c.back.steps, .slice BS c.back.sets.length bsc, .slice BM c.back.makes.length bmc] 102)).grown hgr8 (own_ne_ty (ho5.alloc (.cells #[.int .i64 c.turn.at_, .int .i64 c.turn.steps, .slice TS c.turn.sets.length tsc, .slice TM c.turn.makes.length tmc, .int .i64 c.back.at_, .int .i64 c.back.steps, .slice BS c.back.sets.length bsc, .slice BM c.back.makes.length bmc] 102)) (hk2.alloc (.cells #[.int .i64 c.turn.at_, .int .i64 c.turn.steps, .slice TS c.turn.sets.length tsc, .slice TM c.turn.makes.length tmc, .int .i64 c.back.at_, .int .i64 c.back.steps, .slice BS c.back.sets.length bsc, .slice BM c.back.makes.length bmc] 102)) (by decide)); have hb8 : Below w4.heap.size w4 w8 := (hb5.alloc hs5 _).grown hgr8 (by rw [World.size_alloc]; omega) (fun g hg => (ho5.lt g hg).1)
          refine hK.out _ _ ?_ (fun hHeld3 => ?_)
          · first | trivial | ((try dsimp only); (exact cellsC hk8))
          clear hK K hHeld2
          try simp only [Act.put, List.setIfInBounds_toArray, List.set_cons_zero, List.set_cons_succ]
          refine held_take (v := ?_) 9 rfl (by kernel_rfl) (by kernel_rfl) (by kernel_rfl) (fun _ _ _ h => h) (by rfl) ?_ (by assumption) ?_
          rotate_left
          · (intro w hSw; (try dsimp only at hSw); go_simp; try with_reducible rfl)
          try simp only [Act.put, List.setIfInBounds_toArray, List.set_cons_zero, List.set_cons_succ]
          refine wpAnyH_done (by kernel_rfl) ?_ _
          have HAX := Lib.hid (And.intro ho8 hb8); clear ho8 hgr8 hat8 hb8
          go_wp2_with fail
          go_meet
          exact ⟨A8, c8, rfl, by first | rfl | (congr 1; omega), rfl, HAX.out.1, HAX.out.2⟩
        · go_simp
          refine hK.out _ _ ?_ (fun hHeld1 => ?_)
          · first | trivial | ((try dsimp only); (exact cellsC (H4.out.2.1.alloc _)))
          clear hK K hHeld0
          try simp only [Act.put, List.setIfInBounds_toArray, List.set_cons_zero, List.set_cons_succ]
          refine held_call 2 (by kernel_rfl) rfl (fun K hK => ?_)
          go_simp
          go_at_call 89; refine (cloneRE_any EA ec B c.exits.length rs _ H.out.2.1 (H4.out.2.2.2.drew.alloc hs4B _) (by rw [World.size_alloc]; exact Nat.le_succ_of_le hs4B) (by omega)).mono ?_; rintro e w5 ⟨A5, d5, rfl, ho5, hb5⟩; have hk2 := (H4.out.2.1.drew.alloc (.cells #[.int .i64 c.turn.at_, .int .i64 c.turn.steps, .slice TS c.turn.sets.length tsc, .slice TM c.turn.makes.length tmc, .int .i64 c.back.at_, .int .i64 c.back.steps, .slice BS c.back.sets.length bsc, .slice BM c.back.makes.length bmc] 102)).fresh hb5; have hb45 : Below w4.heap.size w4 w5 := (((Below.refl w4.heap.size w4).drew).alloc (Nat.le_refl _) _).trans (hb5.mono (by rw [World.size_alloc]; exact Nat.le_succ _)); have hs5 := hb45.size
          try (go_wp2_with fail)
          refine hK.out _ _ ?_ (fun hHeld2 => ?_)
          · first | trivial | ((try dsimp only); (exact cellsC hk2))
          clear hK K hHeld1
          try simp only [Act.put, List.setIfInBounds_toArray, List.set_cons_zero, List.set_cons_succ]
          refine held_call 8 (by kernel_rfl) rfl (fun K hK => ?_)
          refine step_app (α := Raw 4) (n := c.exits.length) (m := 2) (nm := c.exits.length + 2) (B := w4.heap.size + 1) (r := [(⟨c.turn, TS, tsc, TM, tmc⟩ : ExA).raw, (⟨c.back, BS, bsc, BM, bmc⟩ : ExA).raw]) (by rfl) (.tmp 68) (.tmp 73) _ (by rfl) w4.heap.size 102 i0 _ 64 Try.underlying98 hi hz0 hz1 hz2 rfl (by decide) raw_one (by rfl) H.out.2.1 (ho5.base_le (by rw [World.size_alloc]; exact Nat.le_succ _)) (by rfl) ((At.built w4.drew _ _ _ HLT.out (fun _ _ => trivial)).below (hb5.mono (by rw [World.size_alloc]; exact Nat.le_refl _))) rfl rfl (by omega) (by simp only [maxLen]; omega) (by omega) ?_; intro A8 c8 w8 ho8 hgr8 hat8; have hk8 := hk2.grown hgr8 (own_ne_ty ho5 hk2 (by decide)); have hb8 : Below w4.heap.size w4 w8 := hb45.grown hgr8 hs5 (fun g hg => by have h := (ho5.lt g hg).1; rw [World.size_alloc] at h; exact Nat.le_of_succ_le h)
          refine hK.out _ _ ?_ (fun hHeld3 => ?_)
          · first | trivial | ((try dsimp only); (exact cellsC hk8))
          clear hK K hHeld2
          try simp only [Act.put, List.setIfInBounds_toArray, List.set_cons_zero, List.set_cons_succ]
          refine held_take (v := ?_) 9 rfl (by kernel_rfl) (by kernel_rfl) (by kernel_rfl) (fun _ _ _ h => h) (by rfl) ?_ (by assumption) ?_
          rotate_left
          · (intro w hSw; (try dsimp only at hSw); go_simp; try with_reducible rfl)
          try simp only [Act.put, List.setIfInBounds_toArray, List.set_cons_zero, List.set_cons_succ]
          refine wpAnyH_done (by kernel_rfl) ?_ _
          have HAX := Lib.hid (And.intro ho8 hb8); clear ho8 hgr8 hat8 hb8
          go_wp2_with fail
          go_meet
          exact ⟨A8, c8, rfl, by first | rfl | (congr 1; omega), rfl, HAX.out.1, HAX.out.2⟩
      case rest =>
        obtain ⟨w5, rfl⟩ : ∃ v : World, v = wc := ⟨_, rfl⟩
        obtain ⟨XA, xc, rfl, rfl, rfl, hOX, hb5⟩ := hcut
        have hs5 := hb5.size
        have hbl5 : Below w1.heap.size w1 w5 := hbl4.trans (hb5.mono (by omega))
        obtain ⟨o4, ho4⟩ : ∃ o4, o1 ++ Ord.bys (Ord.numsB [(c.exits.length : Int)]) = o4 := ⟨_, rfl⟩
        have hBw := H4.out.1.fresh hb5
        rw [ho4] at hBw hl4
        have H5 := Lib.hid (And.intro hOX.out (And.intro hBw ho4)); clear hOX hBw ho4 H4
        have hxl : (c.exits ++ [c.turn, c.back]).length = c.exits.length + 2 := by simp
        have HXL := Lib.hid hxl; clear hxl
        obtain ⟨nx, hnx⟩ : ∃ nx, c.exits.length + 2 = nx := ⟨_, rfl⟩
        rw [hnx] at HXL ⊢
        have hnx2 : nx ≤ 202 := by omega
        have HNX := Lib.hid hnx; clear hnx
        have ltw5 : w.heap.size < w5.heap.size := by omega
        go_wp2_with fail
        go_loopg [76] nx (fun gj jv wj => ∃ (j : Nat) (o2 : List U8), j ≤ nx ∧ gj = nx - j ∧ jv = .int .i64 j ∧ o2.length ≤ 130010 + j * 700000 ∧ Hid (o2 = o4 ++ Ord.bys (Ord.numsB (((c.exits ++ [c.turn, c.back]).take j).flatMap Ord.exitNums)) ∧ Bw wj w1.heap.size w1.heap.size o2 ∧ Own wj w4.heap.size 102 XA xc (rs ++ [(⟨c.turn, TS, tsc, TM, tmc⟩ : ExA).raw, (⟨c.back, BS, bsc, BM, bmc⟩ : ExA).raw])) ∧ Below w1.heap.size w1 wj)
        case atStart => exact ⟨0, o4, Nat.zero_le _, rfl, rfl, by omega, ⟨by simp [Ord.numsB, Ord.bys], H5.out.2.1, H5.out.1⟩, hbl5⟩
        case round =>
          obtain ⟨j, o2, hj, rfl, rfl, ho2, hkeep, hblj⟩ := hrel
          have hRj := hkeep.out.2.1.lt
          have hbwj : Below w.heap.size w wr := hbl1.trans (hblj.mono (by omega))
          by_cases hjt : j < nx
          · obtain ⟨x, hx⟩ : ∃ x, (c.exits ++ [c.turn, c.back])[j]? = some x := ⟨_, List.getElem?_eq_getElem (by rw [HXL.out]; exact hjt)⟩
            have hrlen : (rs ++ [(⟨c.turn, TS, tsc, TM, tmc⟩ : ExA).raw, (⟨c.back, BS, bsc, BM, bmc⟩ : ExA).raw]).length = nx := by rw [List.length_append, H.out.2.1, ← HNX.out]; rfl
            obtain ⟨r, hr⟩ : ∃ r, (rs ++ [(⟨c.turn, TS, tsc, TM, tmc⟩ : ExA).raw, (⟨c.back, BS, bsc, BM, bmc⟩ : ExA).raw])[j]? = some r := ⟨_, List.getElem?_eq_getElem (by rw [hrlen]; exact hjt)⟩
            have hrd := Enc.below (rows2_rd H.out.1 H.out.2.1 H.out.2.2.2 j r x hr hx) (hbwj.mono hB)
            obtain ⟨SA, sc, MA, mc, hcs, as_, am_, ia, ib⟩ := exit_cells hrd
            obtain ⟨gx, rfl, hgx1, hgx2⟩ := hkeep.out.2.2.some_ (by omega)
            have e0 := hkeep.out.2.2.raw_cell (u := .int .i64 x.at_) hr (j := 0) (by rw [hcs]; rfl)
            have e1 := hkeep.out.2.2.raw_cell (u := .int .i64 x.steps) hr (j := 1) (by rw [hcs]; rfl)
            have e2 := hkeep.out.2.2.raw_cell (u := .slice SA x.sets.length sc) hr (j := 2) (by rw [hcs]; rfl)
            have e3 := hkeep.out.2.2.raw_cell (u := .slice MA x.makes.length mc) hr (j := 3) (by rw [hcs]; rfl)
            rw [Nat.add_zero] at e0
            have hlg : Ord.large x = false := HL.out x (by
              have := List.mem_of_getElem? hx
              simp [Ord.allExits] at this ⊢
              rcases this with h | h | h
              · exact .inr (.inr h)
              · exact .inl h
              · exact .inr (.inl h))
            have hen := Ord.exitNums_ok as_ am_ ⟨ia, ib⟩ hlg
            have hfs := Ord.fm_take Ord.exitNums hx
            have hj0 : (0 : Int) ≤ (j : Int) := by omega
            have hj1 : (j : Int) < (nx : Int) := by omega
            have hj2 : j < xc := by have := hkeep.out.2.2.le_cap; rw [hrlen] at this; omega
            have hXB := Blk.new wr 102 #[.int .i64 x.at_, .int .i64 x.steps, .slice SA x.sets.length sc, .slice MA x.makes.length mc]
            have HX := Lib.hid (And.intro hfs (And.intro (And.intro (as_.alloc (show B ≤ wr.heap.size by omega) (.cells #[.int .i64 x.at_, .int .i64 x.steps, .slice SA x.sets.length sc, .slice MA x.makes.length mc] 102)) (am_.alloc (show B ≤ wr.heap.size by omega) (.cells #[.int .i64 x.at_, .int .i64 x.steps, .slice SA x.sets.length sc, .slice MA x.makes.length mc] 102))) (And.intro hkeep.out.1 (And.intro (hkeep.out.2.1.alloc (.cells #[.int .i64 x.at_, .int .i64 x.steps, .slice SA x.sets.length sc, .slice MA x.makes.length mc] 102)) (And.intro (hkeep.out.2.2.alloc (.cells #[.int .i64 x.at_, .int .i64 x.steps, .slice SA x.sets.length sc, .slice MA x.makes.length mc] 102)) (And.intro hen (And.intro (And.intro ia ib) (And.intro hlg hXB))))))))
            clear hfs as_ am_ hkeep hen ia ib hlg hx hr hrd hcs hrlen hXB
            have hbla : Below w1.heap.size w1 (wr.alloc (.cells #[.int .i64 x.at_, .int .i64 x.steps, .slice SA x.sets.length sc, .slice MA x.makes.length mc] 102)) := hblj.alloc (by omega) _
            go_wp2_with (refine wpList_ld rfl 102 (.tmp 9) rfl wr.heap.size rfl HX.out.2.2.2.2.2.2.2.2 Try.underlying102 rfl (by kernel_rfl) ?_)
            refine (wexit_any w1.heap.size w1.heap.size B sc mc SA MA x o2 _ HX.out.2.1.1 HX.out.2.1.2 (by omega) HX.out.2.2.2.1 (by omega) HX.out.2.2.2.2.2.2.1 HX.out.2.2.2.2.2.2.2.1).mono ?_
            rintro en w7 ⟨rfl, hW7, hb7, hk7⟩
            have hbl7 : Below w1.heap.size w1 w7 := hbla.trans hb7
            have hOX7 := own_keep HX.out.2.2.2.2.1 hk7 (by decide) (fun e => by
              obtain ⟨A9, d9, g9, -, -⟩ := HX.out.2.2.2.1
              exact own_ne_ty HX.out.2.2.2.2.1 g9 (by decide) e)
            have heq : o2 ++ Ord.bys (Ord.numsB (Ord.exitNums x)) = o4 ++ Ord.bys (Ord.numsB (((c.exits ++ [c.turn, c.back]).take (j + 1)).flatMap Ord.exitNums)) := by
              rw [HX.out.1, HX.out.2.2.1, Ord.bys_nums, List.append_assoc]
            have hl7 : (o2 ++ Ord.bys (Ord.numsB (Ord.exitNums x))).length ≤ 130010 + (j + 1) * 700000 := by
              rw [List.length_append]
              have h1 := Ord.nums_bound HX.out.2.2.2.2.2.1.1
              have h2 := HX.out.2.2.2.2.2.1.2
              omega
            have H7 := Lib.hid (And.intro heq (And.intro hW7 (And.intro hOX7 hl7))); clear heq hW7 hk7 hl7 hOX7
            go_wp2_with fail
            go_roundg (nx - (j + 1))
            case measure => omega
            case rel => exact ⟨j + 1, _, by omega, rfl, by go_num, H7.out.2.2.2, ⟨H7.out.1, H7.out.2.1, H7.out.2.2.1⟩, hbl7⟩
          · obtain ⟨k1, k2, k3⟩ := hkeep.out
            rw [List.take_of_length_le (by rw [HXL.out]; omega)] at k1
            have heq : o2 = Ord.bys (Ord.numsB (Ord.codeNums c)) := by
              rw [k1, ← H5.out.2.2, H3.out.1]
              simp only [← Ord.bys_nums]
              rfl
            obtain ⟨A9, d9, g9, w9, -⟩ := k2
            have a0 := g9.cell 0 (v := .slice A9 o2.length d9) rfl
            have ltR := g9.lt
            have HF := Lib.hid (And.intro heq w9); clear heq k1 k3 g9 w9 hkeep
            go_wp2_with fail
            rw [HP.out.1]
            exact ⟨hbwj, .inl ⟨H1.out.2.2.2, A9, d9, by rw [← HF.out.1]; rfl, by rw [← HF.out.1]; exact HF.out.2.base_le (by omega)⟩⟩

end Go.Proofs.Ytljdnadejmkaeaa
