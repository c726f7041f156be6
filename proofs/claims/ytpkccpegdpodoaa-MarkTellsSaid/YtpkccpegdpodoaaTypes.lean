/-
  Go's struct types as Lean's (printed by gentypes.py): their cells, their reading, what an element of a slice of them holds.
-/
import Derived.Test.YtpkccpegdpodoaaRowz
namespace Go.Proofs.Ytpkccpegdpodoaa
open Go.RowKit

structure Mk where
  cell : Int
  kind : Int
  num : Int
  vals : List Int

instance : Enc Mk where
  sz := 4
  rd w B cs x := ∃ (c_vals : Value), cs = [.int .i64 x.cell] ++ ([.int .i64 x.kind] ++ ([.int .i64 x.num] ++ ([c_vals]))) ∧ I64 x.cell ∧ I64 x.kind ∧ I64 x.num ∧ Enc.rd w B [c_vals] x.vals
  len := by
    rintro w B cs x ⟨c_vals, rfl, h0, h1, h2, h3⟩
    simp only [List.length_append, List.length_cons, List.length_nil]
  keep := by
    rintro w w2 B cs x ⟨c_vals, rfl, h0, h1, h2, h3⟩ hk
    exact ⟨_, rfl, h0, h1, h2, Enc.keep h3 hk⟩
  more := by
    rintro w B B2 cs x ⟨c_vals, rfl, h0, h1, h2, h3⟩ hB
    exact ⟨_, rfl, h0, h1, h2, Enc.more h3 hB⟩

theorem At.mk_ {w : World} {B : Nat} {A : Option Addr} {l : List Mk} {k : Nat} (h : At w B A l) (hk : k < l.length) :
    ∃ b o x A_vals c_vals, A = some ⟨b, o, none⟩ ∧ b < B ∧ l[k]? = some x ∧ w.cell? ⟨b, o + k * 4, none⟩ = some (.int .i64 x.cell) ∧ w.cell? ⟨b, o + k * 4 + 1, none⟩ = some (.int .i64 x.kind) ∧ w.cell? ⟨b, o + k * 4 + 2, none⟩ = some (.int .i64 x.num) ∧ w.cell? ⟨b, o + k * 4 + 3, none⟩ = some (.slice A_vals x.vals.length c_vals) ∧ At w B A_vals x.vals ∧ (x.vals.length ≤ c_vals ∧ c_vals ≤ maxLen) ∧ I64 x.cell ∧ I64 x.kind ∧ I64 x.num := by
  obtain ⟨x, hx⟩ : ∃ x, l[k]? = some x := ⟨l[k], List.getElem?_eq_getElem hk⟩
  obtain ⟨b, o, cs, rfl, hb, hc, hr⟩ := h k x hx
  obtain ⟨c_vals, rfl, h0, h1, h2, h3⟩ := hr
  obtain ⟨A_vals, d_vals, e3, l1_vals, l2_vals, -, at_vals⟩ := h3
  injection e3 with e3; subst e3
  exact ⟨b, o, x, A_vals, d_vals, rfl, hb, hx, hc 0 _ rfl, hc 1 _ rfl, hc 2 _ rfl, hc 3 _ rfl, at_vals, ⟨l1_vals, l2_vals⟩, h0, h1, h2⟩

structure Ex where
  at_ : Int
  steps : Int
  sets : List (Int × Int)
  makes : List Mk

instance : Enc Ex where
  sz := 4
  rd w B cs x := ∃ (c_sets : Value) (c_makes : Value), cs = [.int .i64 x.at_] ++ ([.int .i64 x.steps] ++ ([c_sets] ++ ([c_makes]))) ∧ I64 x.at_ ∧ I64 x.steps ∧ Enc.rd w B [c_sets] x.sets ∧ Enc.rd w B [c_makes] x.makes
  len := by
    rintro w B cs x ⟨c_sets, c_makes, rfl, h0, h1, h2, h3⟩
    simp only [List.length_append, List.length_cons, List.length_nil]
  keep := by
    rintro w w2 B cs x ⟨c_sets, c_makes, rfl, h0, h1, h2, h3⟩ hk
    exact ⟨_, _, rfl, h0, h1, Enc.keep h2 hk, Enc.keep h3 hk⟩
  more := by
    rintro w B B2 cs x ⟨c_sets, c_makes, rfl, h0, h1, h2, h3⟩ hB
    exact ⟨_, _, rfl, h0, h1, Enc.more h2 hB, Enc.more h3 hB⟩

theorem At.ex_ {w : World} {B : Nat} {A : Option Addr} {l : List Ex} {k : Nat} (h : At w B A l) (hk : k < l.length) :
    ∃ b o x A_sets c_sets A_makes c_makes, A = some ⟨b, o, none⟩ ∧ b < B ∧ l[k]? = some x ∧ w.cell? ⟨b, o + k * 4, none⟩ = some (.int .i64 x.at_) ∧ w.cell? ⟨b, o + k * 4 + 1, none⟩ = some (.int .i64 x.steps) ∧ w.cell? ⟨b, o + k * 4 + 2, none⟩ = some (.slice A_sets x.sets.length c_sets) ∧ w.cell? ⟨b, o + k * 4 + 3, none⟩ = some (.slice A_makes x.makes.length c_makes) ∧ At w B A_sets x.sets ∧ (x.sets.length ≤ c_sets ∧ c_sets ≤ maxLen) ∧ At w B A_makes x.makes ∧ (x.makes.length ≤ c_makes ∧ c_makes ≤ maxLen) ∧ I64 x.at_ ∧ I64 x.steps := by
  obtain ⟨x, hx⟩ : ∃ x, l[k]? = some x := ⟨l[k], List.getElem?_eq_getElem hk⟩
  obtain ⟨b, o, cs, rfl, hb, hc, hr⟩ := h k x hx
  obtain ⟨c_sets, c_makes, rfl, h0, h1, h2, h3⟩ := hr
  obtain ⟨A_sets, d_sets, e2, l1_sets, l2_sets, -, at_sets⟩ := h2
  injection e2 with e2; subst e2
  obtain ⟨A_makes, d_makes, e3, l1_makes, l2_makes, -, at_makes⟩ := h3
  injection e3 with e3; subst e3
  exact ⟨b, o, x, A_sets, d_sets, A_makes, d_makes, rfl, hb, hx, hc 0 _ rfl, hc 1 _ rfl, hc 2 _ rfl, hc 3 _ rfl, at_sets, ⟨l1_sets, l2_sets⟩, at_makes, ⟨l1_makes, l2_makes⟩, h0, h1⟩

structure Fr where
  fn : Int
  at_ : Int
  fto : Int
  gen : Int
  self : (Int × Int)
  regs : List (Int × Int)
  tries : List (Int × Int)

instance : Enc Fr where
  sz := 8
  rd w B cs x := ∃ (c_regs : Value) (c_tries : Value), cs = [.int .i64 x.fn] ++ ([.int .i64 x.at_] ++ ([.int .i64 x.fto] ++ ([.int .i64 x.gen] ++ ([.int .i64 x.self.1, .int .i64 x.self.2] ++ ([c_regs] ++ ([c_tries])))))) ∧ I64 x.fn ∧ I64 x.at_ ∧ I64 x.fto ∧ I64 x.gen ∧ I64 x.self.1 ∧ I64 x.self.2 ∧ Enc.rd w B [c_regs] x.regs ∧ Enc.rd w B [c_tries] x.tries
  len := by
    rintro w B cs x ⟨c_regs, c_tries, rfl, h0, h1, h2, h3, h4, h5, h6, h7⟩
    simp only [List.length_append, List.length_cons, List.length_nil]
  keep := by
    rintro w w2 B cs x ⟨c_regs, c_tries, rfl, h0, h1, h2, h3, h4, h5, h6, h7⟩ hk
    exact ⟨_, _, rfl, h0, h1, h2, h3, h4, h5, Enc.keep h6 hk, Enc.keep h7 hk⟩
  more := by
    rintro w B B2 cs x ⟨c_regs, c_tries, rfl, h0, h1, h2, h3, h4, h5, h6, h7⟩ hB
    exact ⟨_, _, rfl, h0, h1, h2, h3, h4, h5, Enc.more h6 hB, Enc.more h7 hB⟩

theorem At.fr_ {w : World} {B : Nat} {A : Option Addr} {l : List Fr} {k : Nat} (h : At w B A l) (hk : k < l.length) :
    ∃ b o x A_regs c_regs A_tries c_tries, A = some ⟨b, o, none⟩ ∧ b < B ∧ l[k]? = some x ∧ w.cell? ⟨b, o + k * 8, none⟩ = some (.int .i64 x.fn) ∧ w.cell? ⟨b, o + k * 8 + 1, none⟩ = some (.int .i64 x.at_) ∧ w.cell? ⟨b, o + k * 8 + 2, none⟩ = some (.int .i64 x.fto) ∧ w.cell? ⟨b, o + k * 8 + 3, none⟩ = some (.int .i64 x.gen) ∧ w.cell? ⟨b, o + k * 8 + 4, none⟩ = some (.int .i64 x.self.1) ∧ w.cell? ⟨b, o + k * 8 + 5, none⟩ = some (.int .i64 x.self.2) ∧ w.cell? ⟨b, o + k * 8 + 6, none⟩ = some (.slice A_regs x.regs.length c_regs) ∧ w.cell? ⟨b, o + k * 8 + 7, none⟩ = some (.slice A_tries x.tries.length c_tries) ∧ At w B A_regs x.regs ∧ (x.regs.length ≤ c_regs ∧ c_regs ≤ maxLen) ∧ At w B A_tries x.tries ∧ (x.tries.length ≤ c_tries ∧ c_tries ≤ maxLen) ∧ I64 x.fn ∧ I64 x.at_ ∧ I64 x.fto ∧ I64 x.gen ∧ I64 x.self.1 ∧ I64 x.self.2 := by
  obtain ⟨x, hx⟩ : ∃ x, l[k]? = some x := ⟨l[k], List.getElem?_eq_getElem hk⟩
  obtain ⟨b, o, cs, rfl, hb, hc, hr⟩ := h k x hx
  obtain ⟨c_regs, c_tries, rfl, h0, h1, h2, h3, h4, h5, h6, h7⟩ := hr
  obtain ⟨A_regs, d_regs, e6, l1_regs, l2_regs, -, at_regs⟩ := h6
  injection e6 with e6; subst e6
  obtain ⟨A_tries, d_tries, e7, l1_tries, l2_tries, -, at_tries⟩ := h7
  injection e7 with e7; subst e7
  exact ⟨b, o, x, A_regs, d_regs, A_tries, d_tries, rfl, hb, hx, hc 0 _ rfl, hc 1 _ rfl, hc 2 _ rfl, hc 3 _ rfl, hc 4 _ rfl, hc 5 _ rfl, hc 6 _ rfl, hc 7 _ rfl, at_regs, ⟨l1_regs, l2_regs⟩, at_tries, ⟨l1_tries, l2_tries⟩, h0, h1, h2, h3, h4, h5⟩

structure Ce where
  kind : Int
  num : Int
  vals : List (Int × Int)
  frames : List Fr

instance : Enc Ce where
  sz := 4
  rd w B cs x := ∃ (c_vals : Value) (c_frames : Value), cs = [.int .i64 x.kind] ++ ([.int .i64 x.num] ++ ([c_vals] ++ ([c_frames]))) ∧ I64 x.kind ∧ I64 x.num ∧ Enc.rd w B [c_vals] x.vals ∧ Enc.rd w B [c_frames] x.frames
  len := by
    rintro w B cs x ⟨c_vals, c_frames, rfl, h0, h1, h2, h3⟩
    simp only [List.length_append, List.length_cons, List.length_nil]
  keep := by
    rintro w w2 B cs x ⟨c_vals, c_frames, rfl, h0, h1, h2, h3⟩ hk
    exact ⟨_, _, rfl, h0, h1, Enc.keep h2 hk, Enc.keep h3 hk⟩
  more := by
    rintro w B B2 cs x ⟨c_vals, c_frames, rfl, h0, h1, h2, h3⟩ hB
    exact ⟨_, _, rfl, h0, h1, Enc.more h2 hB, Enc.more h3 hB⟩

theorem At.ce_ {w : World} {B : Nat} {A : Option Addr} {l : List Ce} {k : Nat} (h : At w B A l) (hk : k < l.length) :
    ∃ b o x A_vals c_vals A_frames c_frames, A = some ⟨b, o, none⟩ ∧ b < B ∧ l[k]? = some x ∧ w.cell? ⟨b, o + k * 4, none⟩ = some (.int .i64 x.kind) ∧ w.cell? ⟨b, o + k * 4 + 1, none⟩ = some (.int .i64 x.num) ∧ w.cell? ⟨b, o + k * 4 + 2, none⟩ = some (.slice A_vals x.vals.length c_vals) ∧ w.cell? ⟨b, o + k * 4 + 3, none⟩ = some (.slice A_frames x.frames.length c_frames) ∧ At w B A_vals x.vals ∧ (x.vals.length ≤ c_vals ∧ c_vals ≤ maxLen) ∧ At w B A_frames x.frames ∧ (x.frames.length ≤ c_frames ∧ c_frames ≤ maxLen) ∧ I64 x.kind ∧ I64 x.num := by
  obtain ⟨x, hx⟩ : ∃ x, l[k]? = some x := ⟨l[k], List.getElem?_eq_getElem hk⟩
  obtain ⟨b, o, cs, rfl, hb, hc, hr⟩ := h k x hx
  obtain ⟨c_vals, c_frames, rfl, h0, h1, h2, h3⟩ := hr
  obtain ⟨A_vals, d_vals, e2, l1_vals, l2_vals, -, at_vals⟩ := h2
  injection e2 with e2; subst e2
  obtain ⟨A_frames, d_frames, e3, l1_frames, l2_frames, -, at_frames⟩ := h3
  injection e3 with e3; subst e3
  exact ⟨b, o, x, A_vals, d_vals, A_frames, d_frames, rfl, hb, hx, hc 0 _ rfl, hc 1 _ rfl, hc 2 _ rfl, hc 3 _ rfl, at_vals, ⟨l1_vals, l2_vals⟩, at_frames, ⟨l1_frames, l2_frames⟩, h0, h1⟩

structure TI where
  op : Int
  a : Int
  b : Int
  c : Int
  n : Int
  exit : Int
  k : (Int × Int)

instance : Enc TI where
  sz := 8
  rd w B cs x := cs = [.int .i64 x.op] ++ ([.int .i64 x.a] ++ ([.int .i64 x.b] ++ ([.int .i64 x.c] ++ ([.int .i64 x.n] ++ ([.int .i64 x.exit] ++ ([.int .i64 x.k.1, .int .i64 x.k.2])))))) ∧ I64 x.op ∧ I64 x.a ∧ I64 x.b ∧ I64 x.c ∧ I64 x.n ∧ I64 x.exit ∧ I64 x.k.1 ∧ I64 x.k.2
  len h := by rw [h.1]; rfl
  keep h _ := h
  more h _ := h

theorem At.tI_ {w : World} {B : Nat} {A : Option Addr} {l : List TI} {k : Nat} (h : At w B A l) (hk : k < l.length) :
    ∃ b o x, A = some ⟨b, o, none⟩ ∧ b < B ∧ l[k]? = some x ∧ w.cell? ⟨b, o + k * 8, none⟩ = some (.int .i64 x.op) ∧ w.cell? ⟨b, o + k * 8 + 1, none⟩ = some (.int .i64 x.a) ∧ w.cell? ⟨b, o + k * 8 + 2, none⟩ = some (.int .i64 x.b) ∧ w.cell? ⟨b, o + k * 8 + 3, none⟩ = some (.int .i64 x.c) ∧ w.cell? ⟨b, o + k * 8 + 4, none⟩ = some (.int .i64 x.n) ∧ w.cell? ⟨b, o + k * 8 + 5, none⟩ = some (.int .i64 x.exit) ∧ w.cell? ⟨b, o + k * 8 + 6, none⟩ = some (.int .i64 x.k.1) ∧ w.cell? ⟨b, o + k * 8 + 7, none⟩ = some (.int .i64 x.k.2) ∧ I64 x.op ∧ I64 x.a ∧ I64 x.b ∧ I64 x.c ∧ I64 x.n ∧ I64 x.exit ∧ I64 x.k.1 ∧ I64 x.k.2 := by
  obtain ⟨x, hx⟩ : ∃ x, l[k]? = some x := ⟨l[k], List.getElem?_eq_getElem hk⟩
  obtain ⟨b, o, cs, rfl, hb, hc, hr⟩ := h k x hx
  obtain ⟨rfl, h0, h1, h2, h3, h4, h5, h6, h7⟩ := hr
  exact ⟨b, o, x, rfl, hb, hx, hc 0 _ rfl, hc 1 _ rfl, hc 2 _ rfl, hc 3 _ rfl, hc 4 _ rfl, hc 5 _ rfl, hc 6 _ rfl, hc 7 _ rfl, h0, h1, h2, h3, h4, h5, h6, h7⟩

structure TT where
  fn : Int
  at_ : Int
  loop : Int
  ins : List TI
  exits : List Ex
  turn : Ex
  back : Ex

instance : Enc TT where
  sz := 13
  rd w B cs x := ∃ (c_ins : Value) (c_exits : Value) (c_turn : List Value) (c_back : List Value), cs = [.int .i64 x.fn] ++ ([.int .i64 x.at_] ++ ([.int .i64 x.loop] ++ ([c_ins] ++ ([c_exits] ++ (c_turn ++ (c_back)))))) ∧ I64 x.fn ∧ I64 x.at_ ∧ I64 x.loop ∧ Enc.rd w B [c_ins] x.ins ∧ Enc.rd w B [c_exits] x.exits ∧ Enc.rd w B c_turn x.turn ∧ Enc.rd w B c_back x.back
  len := by
    rintro w B cs x ⟨c_ins, c_exits, c_turn, c_back, rfl, h0, h1, h2, h3, h4, h5, h6⟩
    have g5 := Enc.len h5
    have g6 := Enc.len h6
    simp only [List.length_append, List.length_cons, List.length_nil, g5, g6]
    rfl
  keep := by
    rintro w w2 B cs x ⟨c_ins, c_exits, c_turn, c_back, rfl, h0, h1, h2, h3, h4, h5, h6⟩ hk
    exact ⟨_, _, _, _, rfl, h0, h1, h2, Enc.keep h3 hk, Enc.keep h4 hk, Enc.keep h5 hk, Enc.keep h6 hk⟩
  more := by
    rintro w B B2 cs x ⟨c_ins, c_exits, c_turn, c_back, rfl, h0, h1, h2, h3, h4, h5, h6⟩ hB
    exact ⟨_, _, _, _, rfl, h0, h1, h2, Enc.more h3 hB, Enc.more h4 hB, Enc.more h5 hB, Enc.more h6 hB⟩

structure RM where
  cell : (Int × Int)
  kind : Int
  num : Int
  vals : List (Int × Int)

instance : Enc RM where
  sz := 5
  rd w B cs x := ∃ (c_vals : Value), cs = [.int .i64 x.cell.1, .int .i64 x.cell.2] ++ ([.int .i64 x.kind] ++ ([.int .i64 x.num] ++ ([c_vals]))) ∧ I64 x.cell.1 ∧ I64 x.cell.2 ∧ I64 x.kind ∧ I64 x.num ∧ Enc.rd w B [c_vals] x.vals
  len := by
    rintro w B cs x ⟨c_vals, rfl, h0, h1, h2, h3, h4⟩
    simp only [List.length_append, List.length_cons, List.length_nil]
  keep := by
    rintro w w2 B cs x ⟨c_vals, rfl, h0, h1, h2, h3, h4⟩ hk
    exact ⟨_, rfl, h0, h1, h2, h3, Enc.keep h4 hk⟩
  more := by
    rintro w B B2 cs x ⟨c_vals, rfl, h0, h1, h2, h3, h4⟩ hB
    exact ⟨_, rfl, h0, h1, h2, h3, Enc.more h4 hB⟩

theorem At.rM_ {w : World} {B : Nat} {A : Option Addr} {l : List RM} {k : Nat} (h : At w B A l) (hk : k < l.length) :
    ∃ b o x A_vals c_vals, A = some ⟨b, o, none⟩ ∧ b < B ∧ l[k]? = some x ∧ w.cell? ⟨b, o + k * 5, none⟩ = some (.int .i64 x.cell.1) ∧ w.cell? ⟨b, o + k * 5 + 1, none⟩ = some (.int .i64 x.cell.2) ∧ w.cell? ⟨b, o + k * 5 + 2, none⟩ = some (.int .i64 x.kind) ∧ w.cell? ⟨b, o + k * 5 + 3, none⟩ = some (.int .i64 x.num) ∧ w.cell? ⟨b, o + k * 5 + 4, none⟩ = some (.slice A_vals x.vals.length c_vals) ∧ At w B A_vals x.vals ∧ (x.vals.length ≤ c_vals ∧ c_vals ≤ maxLen) ∧ I64 x.cell.1 ∧ I64 x.cell.2 ∧ I64 x.kind ∧ I64 x.num := by
  obtain ⟨x, hx⟩ : ∃ x, l[k]? = some x := ⟨l[k], List.getElem?_eq_getElem hk⟩
  obtain ⟨b, o, cs, rfl, hb, hc, hr⟩ := h k x hx
  obtain ⟨c_vals, rfl, h0, h1, h2, h3, h4⟩ := hr
  obtain ⟨A_vals, d_vals, e4, l1_vals, l2_vals, -, at_vals⟩ := h4
  injection e4 with e4; subst e4
  exact ⟨b, o, x, A_vals, d_vals, rfl, hb, hx, hc 0 _ rfl, hc 1 _ rfl, hc 2 _ rfl, hc 3 _ rfl, hc 4 _ rfl, at_vals, ⟨l1_vals, l2_vals⟩, h0, h1, h2, h3⟩

structure RE where
  at_ : Int
  steps : Int
  sets : List (Int × Int × Int)
  makes : List RM

instance : Enc RE where
  sz := 4
  rd w B cs x := ∃ (c_sets : Value) (c_makes : Value), cs = [.int .i64 x.at_] ++ ([.int .i64 x.steps] ++ ([c_sets] ++ ([c_makes]))) ∧ I64 x.at_ ∧ I64 x.steps ∧ Enc.rd w B [c_sets] x.sets ∧ Enc.rd w B [c_makes] x.makes
  len := by
    rintro w B cs x ⟨c_sets, c_makes, rfl, h0, h1, h2, h3⟩
    simp only [List.length_append, List.length_cons, List.length_nil]
  keep := by
    rintro w w2 B cs x ⟨c_sets, c_makes, rfl, h0, h1, h2, h3⟩ hk
    exact ⟨_, _, rfl, h0, h1, Enc.keep h2 hk, Enc.keep h3 hk⟩
  more := by
    rintro w B B2 cs x ⟨c_sets, c_makes, rfl, h0, h1, h2, h3⟩ hB
    exact ⟨_, _, rfl, h0, h1, Enc.more h2 hB, Enc.more h3 hB⟩

theorem At.rE_ {w : World} {B : Nat} {A : Option Addr} {l : List RE} {k : Nat} (h : At w B A l) (hk : k < l.length) :
    ∃ b o x A_sets c_sets A_makes c_makes, A = some ⟨b, o, none⟩ ∧ b < B ∧ l[k]? = some x ∧ w.cell? ⟨b, o + k * 4, none⟩ = some (.int .i64 x.at_) ∧ w.cell? ⟨b, o + k * 4 + 1, none⟩ = some (.int .i64 x.steps) ∧ w.cell? ⟨b, o + k * 4 + 2, none⟩ = some (.slice A_sets x.sets.length c_sets) ∧ w.cell? ⟨b, o + k * 4 + 3, none⟩ = some (.slice A_makes x.makes.length c_makes) ∧ At w B A_sets x.sets ∧ (x.sets.length ≤ c_sets ∧ c_sets ≤ maxLen) ∧ At w B A_makes x.makes ∧ (x.makes.length ≤ c_makes ∧ c_makes ≤ maxLen) ∧ I64 x.at_ ∧ I64 x.steps := by
  obtain ⟨x, hx⟩ : ∃ x, l[k]? = some x := ⟨l[k], List.getElem?_eq_getElem hk⟩
  obtain ⟨b, o, cs, rfl, hb, hc, hr⟩ := h k x hx
  obtain ⟨c_sets, c_makes, rfl, h0, h1, h2, h3⟩ := hr
  obtain ⟨A_sets, d_sets, e2, l1_sets, l2_sets, -, at_sets⟩ := h2
  injection e2 with e2; subst e2
  obtain ⟨A_makes, d_makes, e3, l1_makes, l2_makes, -, at_makes⟩ := h3
  injection e3 with e3; subst e3
  exact ⟨b, o, x, A_sets, d_sets, A_makes, d_makes, rfl, hb, hx, hc 0 _ rfl, hc 1 _ rfl, hc 2 _ rfl, hc 3 _ rfl, at_sets, ⟨l1_sets, l2_sets⟩, at_makes, ⟨l1_makes, l2_makes⟩, h0, h1⟩

structure RO where
  op : Int
  a : Int
  b : Int
  c : Int
  n : Int
  exit : Int
  k : (Int × Int)

instance : Enc RO where
  sz := 8
  rd w B cs x := cs = [.int .i64 x.op] ++ ([.int .i64 x.a] ++ ([.int .i64 x.b] ++ ([.int .i64 x.c] ++ ([.int .i64 x.n] ++ ([.int .i64 x.exit] ++ ([.int .i64 x.k.1, .int .i64 x.k.2])))))) ∧ I64 x.op ∧ I64 x.a ∧ I64 x.b ∧ I64 x.c ∧ I64 x.n ∧ I64 x.exit ∧ I64 x.k.1 ∧ I64 x.k.2
  len h := by rw [h.1]; rfl
  keep h _ := h
  more h _ := h

theorem At.rO_ {w : World} {B : Nat} {A : Option Addr} {l : List RO} {k : Nat} (h : At w B A l) (hk : k < l.length) :
    ∃ b o x, A = some ⟨b, o, none⟩ ∧ b < B ∧ l[k]? = some x ∧ w.cell? ⟨b, o + k * 8, none⟩ = some (.int .i64 x.op) ∧ w.cell? ⟨b, o + k * 8 + 1, none⟩ = some (.int .i64 x.a) ∧ w.cell? ⟨b, o + k * 8 + 2, none⟩ = some (.int .i64 x.b) ∧ w.cell? ⟨b, o + k * 8 + 3, none⟩ = some (.int .i64 x.c) ∧ w.cell? ⟨b, o + k * 8 + 4, none⟩ = some (.int .i64 x.n) ∧ w.cell? ⟨b, o + k * 8 + 5, none⟩ = some (.int .i64 x.exit) ∧ w.cell? ⟨b, o + k * 8 + 6, none⟩ = some (.int .i64 x.k.1) ∧ w.cell? ⟨b, o + k * 8 + 7, none⟩ = some (.int .i64 x.k.2) ∧ I64 x.op ∧ I64 x.a ∧ I64 x.b ∧ I64 x.c ∧ I64 x.n ∧ I64 x.exit ∧ I64 x.k.1 ∧ I64 x.k.2 := by
  obtain ⟨x, hx⟩ : ∃ x, l[k]? = some x := ⟨l[k], List.getElem?_eq_getElem hk⟩
  obtain ⟨b, o, cs, rfl, hb, hc, hr⟩ := h k x hx
  obtain ⟨rfl, h0, h1, h2, h3, h4, h5, h6, h7⟩ := hr
  exact ⟨b, o, x, rfl, hb, hx, hc 0 _ rfl, hc 1 _ rfl, hc 2 _ rfl, hc 3 _ rfl, hc 4 _ rfl, hc 5 _ rfl, hc 6 _ rfl, hc 7 _ rfl, h0, h1, h2, h3, h4, h5, h6, h7⟩

structure RC where
  fn : Int
  at_ : Int
  loop : Int
  slots : Int
  orders : List RO
  exits : List RE
  turn : RE
  back : RE

instance : Enc RC where
  sz := 14
  rd w B cs x := ∃ (c_orders : Value) (c_exits : Value) (c_turn : List Value) (c_back : List Value), cs = [.int .i64 x.fn] ++ ([.int .i64 x.at_] ++ ([.int .i64 x.loop] ++ ([.int .i64 x.slots] ++ ([c_orders] ++ ([c_exits] ++ (c_turn ++ (c_back))))))) ∧ I64 x.fn ∧ I64 x.at_ ∧ I64 x.loop ∧ I64 x.slots ∧ Enc.rd w B [c_orders] x.orders ∧ Enc.rd w B [c_exits] x.exits ∧ Enc.rd w B c_turn x.turn ∧ Enc.rd w B c_back x.back
  len := by
    rintro w B cs x ⟨c_orders, c_exits, c_turn, c_back, rfl, h0, h1, h2, h3, h4, h5, h6, h7⟩
    have g6 := Enc.len h6
    have g7 := Enc.len h7
    simp only [List.length_append, List.length_cons, List.length_nil, g6, g7]
    rfl
  keep := by
    rintro w w2 B cs x ⟨c_orders, c_exits, c_turn, c_back, rfl, h0, h1, h2, h3, h4, h5, h6, h7⟩ hk
    exact ⟨_, _, _, _, rfl, h0, h1, h2, h3, Enc.keep h4 hk, Enc.keep h5 hk, Enc.keep h6 hk, Enc.keep h7 hk⟩
  more := by
    rintro w B B2 cs x ⟨c_orders, c_exits, c_turn, c_back, rfl, h0, h1, h2, h3, h4, h5, h6, h7⟩ hB
    exact ⟨_, _, _, _, rfl, h0, h1, h2, h3, Enc.more h4 hB, Enc.more h5 hB, Enc.more h6 hB, Enc.more h7 hB⟩

structure Gr where
  has : List (List Int)
  roots : List Int

instance : Enc Gr where
  sz := 2
  rd w B cs x := ∃ (c_has : Value) (c_roots : Value), cs = [c_has] ++ ([c_roots]) ∧ Enc.rd w B [c_has] x.has ∧ Enc.rd w B [c_roots] x.roots
  len := by
    rintro w B cs x ⟨c_has, c_roots, rfl, h0, h1⟩
    simp only [List.length_append, List.length_cons, List.length_nil]
  keep := by
    rintro w w2 B cs x ⟨c_has, c_roots, rfl, h0, h1⟩ hk
    exact ⟨_, _, rfl, Enc.keep h0 hk, Enc.keep h1 hk⟩
  more := by
    rintro w B B2 cs x ⟨c_has, c_roots, rfl, h0, h1⟩ hB
    exact ⟨_, _, rfl, Enc.more h0 hB, Enc.more h1 hB⟩

theorem At.gr_ {w : World} {B : Nat} {A : Option Addr} {l : List Gr} {k : Nat} (h : At w B A l) (hk : k < l.length) :
    ∃ b o x A_has c_has A_roots c_roots, A = some ⟨b, o, none⟩ ∧ b < B ∧ l[k]? = some x ∧ w.cell? ⟨b, o + k * 2, none⟩ = some (.slice A_has x.has.length c_has) ∧ w.cell? ⟨b, o + k * 2 + 1, none⟩ = some (.slice A_roots x.roots.length c_roots) ∧ At w B A_has x.has ∧ (x.has.length ≤ c_has ∧ c_has ≤ maxLen) ∧ At w B A_roots x.roots ∧ (x.roots.length ≤ c_roots ∧ c_roots ≤ maxLen) := by
  obtain ⟨x, hx⟩ : ∃ x, l[k]? = some x := ⟨l[k], List.getElem?_eq_getElem hk⟩
  obtain ⟨b, o, cs, rfl, hb, hc, hr⟩ := h k x hx
  obtain ⟨c_has, c_roots, rfl, h0, h1⟩ := hr
  obtain ⟨A_has, d_has, e0, l1_has, l2_has, -, at_has⟩ := h0
  injection e0 with e0; subst e0
  obtain ⟨A_roots, d_roots, e1, l1_roots, l2_roots, -, at_roots⟩ := h1
  injection e1 with e1; subst e1
  exact ⟨b, o, x, A_has, d_has, A_roots, d_roots, rfl, hb, hx, hc 0 _ rfl, hc 1 _ rfl, at_has, ⟨l1_has, l2_has⟩, at_roots, ⟨l1_roots, l2_roots⟩⟩

structure Hp where
  words : List U64
  roots : List U64

instance : Enc Hp where
  sz := 2
  rd w B cs x := ∃ (c_words : Value) (c_roots : Value), cs = [c_words] ++ ([c_roots]) ∧ Enc.rd w B [c_words] x.words ∧ Enc.rd w B [c_roots] x.roots
  len := by
    rintro w B cs x ⟨c_words, c_roots, rfl, h0, h1⟩
    simp only [List.length_append, List.length_cons, List.length_nil]
  keep := by
    rintro w w2 B cs x ⟨c_words, c_roots, rfl, h0, h1⟩ hk
    exact ⟨_, _, rfl, Enc.keep h0 hk, Enc.keep h1 hk⟩
  more := by
    rintro w B B2 cs x ⟨c_words, c_roots, rfl, h0, h1⟩ hB
    exact ⟨_, _, rfl, Enc.more h0 hB, Enc.more h1 hB⟩

theorem At.hp_ {w : World} {B : Nat} {A : Option Addr} {l : List Hp} {k : Nat} (h : At w B A l) (hk : k < l.length) :
    ∃ b o x A_words c_words A_roots c_roots, A = some ⟨b, o, none⟩ ∧ b < B ∧ l[k]? = some x ∧ w.cell? ⟨b, o + k * 2, none⟩ = some (.slice A_words x.words.length c_words) ∧ w.cell? ⟨b, o + k * 2 + 1, none⟩ = some (.slice A_roots x.roots.length c_roots) ∧ At w B A_words x.words ∧ (x.words.length ≤ c_words ∧ c_words ≤ maxLen) ∧ At w B A_roots x.roots ∧ (x.roots.length ≤ c_roots ∧ c_roots ≤ maxLen) := by
  obtain ⟨x, hx⟩ : ∃ x, l[k]? = some x := ⟨l[k], List.getElem?_eq_getElem hk⟩
  obtain ⟨b, o, cs, rfl, hb, hc, hr⟩ := h k x hx
  obtain ⟨c_words, c_roots, rfl, h0, h1⟩ := hr
  obtain ⟨A_words, d_words, e0, l1_words, l2_words, -, at_words⟩ := h0
  injection e0 with e0; subst e0
  obtain ⟨A_roots, d_roots, e1, l1_roots, l2_roots, -, at_roots⟩ := h1
  injection e1 with e1; subst e1
  exact ⟨b, o, x, A_words, d_words, A_roots, d_roots, rfl, hb, hx, hc 0 _ rfl, hc 1 _ rfl, at_words, ⟨l1_words, l2_words⟩, at_roots, ⟨l1_roots, l2_roots⟩⟩

structure De where
  do_ : Int
  a : Int
  b : Int
  n : Int

instance : Enc De where
  sz := 4
  rd w B cs x := cs = [.int .i64 x.do_] ++ ([.int .i64 x.a] ++ ([.int .i64 x.b] ++ ([.int .i64 x.n]))) ∧ I64 x.do_ ∧ I64 x.a ∧ I64 x.b ∧ I64 x.n
  len h := by rw [h.1]; rfl
  keep h _ := h
  more h _ := h

theorem At.de_ {w : World} {B : Nat} {A : Option Addr} {l : List De} {k : Nat} (h : At w B A l) (hk : k < l.length) :
    ∃ b o x, A = some ⟨b, o, none⟩ ∧ b < B ∧ l[k]? = some x ∧ w.cell? ⟨b, o + k * 4, none⟩ = some (.int .i64 x.do_) ∧ w.cell? ⟨b, o + k * 4 + 1, none⟩ = some (.int .i64 x.a) ∧ w.cell? ⟨b, o + k * 4 + 2, none⟩ = some (.int .i64 x.b) ∧ w.cell? ⟨b, o + k * 4 + 3, none⟩ = some (.int .i64 x.n) ∧ I64 x.do_ ∧ I64 x.a ∧ I64 x.b ∧ I64 x.n := by
  obtain ⟨x, hx⟩ : ∃ x, l[k]? = some x := ⟨l[k], List.getElem?_eq_getElem hk⟩
  obtain ⟨b, o, cs, rfl, hb, hc, hr⟩ := h k x hx
  obtain ⟨rfl, h0, h1, h2, h3⟩ := hr
  exact ⟨b, o, x, rfl, hb, hx, hc 0 _ rfl, hc 1 _ rfl, hc 2 _ rfl, hc 3 _ rfl, h0, h1, h2, h3⟩

end Go.Proofs.Ytpkccpegdpodoaa
