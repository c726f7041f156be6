/- The reference: is a value asked at a place of a trace? -/
import Derived.Test.YtljdnadejmkaeaaLive17
namespace Go.Proofs.Ytljdnadejmkaeaa
open Go.RowKit

/-- the values of an exit, asked for, in one call -/
theorem rvals_at (B sc mc : Nat) (SA MA : Option Addr) (x : Ex) (w : World) (h : Enc.rd w B (exC x SA sc MA mc) x) (hB : B ≤ w.heap.size) (hl : (Liv.vals x).length * 8 ≤ 140737488355328) :
    Calls Try.prog 63 #[.agg #[.int .i64 x.at_, .int .i64 x.steps, .slice SA x.sets.length sc, .slice MA x.makes.length mc]] w fun e w' => ∃ A d, e = .returned (.slice A (Liv.vals x).length d) ∧ At w' w'.heap.size A (Liv.vals x) ∧ Below w.heap.size w w' := by
  obtain ⟨s_, m_, -, -⟩ := rd_ex h
  refine (rvalues_any B sc mc _ SA MA x w s_ m_ hB rfl hl).mono ?_
  rintro e w' ⟨A, d, rfl, ho, hb⟩
  exact ⟨A, d, rfl, ho.at_ (Liv.vals_ok s_ m_), hb⟩

theorem rasks_at (x : TI) (N : Nat) (w : World) (hN : (Liv.asks x).length = N) (hok : ∀ z ∈ Liv.asks x, Flat.ok z) :
    Calls Try.prog 62 #[.agg #[.int .i64 x.op, .int .i64 x.a, .int .i64 x.b, .int .i64 x.c, .int .i64 x.n, .int .i64 x.exit, .int .i64 x.k.1, .int .i64 x.k.2]] w fun e w' => ∃ A d, e = .returned (.slice A N d) ∧ At w' w'.heap.size A (Liv.asks x) ∧ Below w.heap.size w w' := by
  subst hN
  refine (rAsks_any x w).mono ?_
  rintro e w' ⟨A, d, rfl, ho, hb⟩
  exact ⟨A, d, rfl, ho.at_ hok, hb⟩

theorem rhas_vals (x : List Int) (A : Option Addr) (c B n : Nat) (v : Int) (w : World) (hn : x.length = n) (h : At w B A x) (hl : n * 8 ≤ 140737488355328) :
    Calls Try.prog 57 #[.slice A n c, .int .i64 v] w fun e w' => e = .returned (.bool (x.contains v)) ∧ w = w' := by
  refine (hasInt_any A c B n x v w hn h (by omega)).mono ?_
  rintro e w' ⟨rfl, rfl⟩
  exact ⟨ret_bool (by simp), rfl⟩

set_option maxHeartbeats 1600000 in
set_option maxRecDepth 100000 in
theorem rasked_end (B ic ec tsc tmc bsc bmc : Nat) (IA EA TS TM BS BM : Option Addr) (fn at_ loop : Int) (ins : List TI) (exits : List Ex) (turn back : Ex) (w : World) (h : TrAt w B ins exits turn back IA EA TS tsc TM tmc BS bsc BM bmc) (hB : B ≤ w.heap.size) (hil : ins.length ≤ 100000) (hel : exits.length ≤ 100000) (hf : ∀ y ∈ exits, (Liv.vals y).length * 8 ≤ 140737488355328) (hft : (Liv.vals turn).length * 8 ≤ 140737488355328) (hfb : (Liv.vals back).length * 8 ≤ 140737488355328) (v : Int) (a : Nat) (ha : a = ins.length) :
    Calls Try.prog 74 #[.agg #[.int .i64 fn, .int .i64 at_, .int .i64 loop, .slice IA ins.length ic, .slice EA exits.length ec, .int .i64 turn.at_, .int .i64 turn.steps, .slice TS turn.sets.length tsc, .slice TM turn.makes.length tmc, .int .i64 back.at_, .int .i64 back.steps, .slice BS back.sets.length bsc, .slice BM back.makes.length bmc], .int .i64 v, .int .i64 a] w fun e w' => e = .returned (.bool (Liv.asked ins exits turn back loop v a)) ∧ Below w.heap.size w w' := by
  have hq : Liv.asked ins exits turn back loop v a = ((Liv.vals back).contains v || (decide (loop = a) && decide (0 < a) && (Liv.vals turn).contains v)) := by unfold Liv.asked; rw [if_pos ha]
  rw [hq]; clear hq
  have H := Lib.hid (And.intro h hf); clear h hf
  have haE : ((a : Int) == (ins.length : Int)) = true := by rw [ha]; simp
  clear ha
  go_enter Try.func74, Try.ntmps74
  go_wp2_with fail
  refine calls_world (fun W => Blk W w.heap.size 72 #[.int .i64 fn, .int .i64 at_, .int .i64 loop, .slice IA ins.length ic, .slice EA exits.length ec, .int .i64 turn.at_, .int .i64 turn.steps, .slice TS turn.sets.length tsc, .slice TM turn.makes.length tmc, .int .i64 back.at_, .int .i64 back.steps, .slice BS back.sets.length bsc, .slice BM back.makes.length bmc] ∧ Below w.heap.size w W ∧ w.heap.size + 1 ≤ W.heap.size) ⟨Blk.new _ _ _, (Below.refl _ _).alloc (Nat.le_refl _) _, by simp⟩ ?_
  rintro W ⟨hX, hb0, hs0⟩
  have HB := Lib.hid hX; clear hX
  have HT := H.out.1.below (hb0.mono hB)
  refine (rvals_at B bsc bmc BS BM back W HT.b (by omega) hfb).mono ?_
  have HT := Lib.hid HT
  rintro e w1 ⟨A1, d1, rfl, ho1, hb1⟩
  have hs1 := hb1.size
  have H1 := Lib.hid (And.intro ho1 (HB.out.fresh hb1)); clear ho1
  have hbl : Below w.heap.size w w1 := hb0.trans (hb1.mono (by omega))
  go_wp2_with fail
  refine (rhas_vals (Liv.vals back) A1 d1 w1.heap.size _ v w1 rfl H1.out.1 (by omega)).mono ?_
  rintro e w9 ⟨rfl, rfl⟩
  have lt1 : w.heap.size < w1.heap.size := by omega
  cases hv : (Liv.vals back).contains v with
  | true =>
    go_wp2_with fail
    go_ret
    exact ⟨ret_bool (by rw [hv]; simp), hbl⟩
  | false =>
    have c2 := H1.out.2.cell 2 (v := .int .i64 loop) rfl
    by_cases h1 : loop = a
    · have hl : (loop == (a : Int)) = true := by rw [h1]; simp
      have HL1 := Lib.hid h1; clear h1
      by_cases h2 : 0 < a
      · have h2' : (0 : Int) < (a : Int) := by omega
        have t5 := H1.out.2.cell 5 (v := .int .i64 turn.at_) rfl
        have t6 := H1.out.2.cell 6 (v := .int .i64 turn.steps) rfl
        have t7 := H1.out.2.cell 7 (v := .slice TS turn.sets.length tsc) rfl
        have t8 := H1.out.2.cell 8 (v := .slice TM turn.makes.length tmc) rfl
        go_wp2_with fail
        refine (rvals_at B tsc tmc TS TM turn w1 (HT.out.below (hb1.mono (by omega))).t (by omega) hft).mono ?_
        rintro e w2 ⟨A2, d2, rfl, ho2, hb2⟩
        have H2 := Lib.hid ho2; clear ho2 t5 t6 t7 t8
        go_wp2_with fail
        refine (rhas_vals (Liv.vals turn) A2 d2 w2.heap.size _ v w2 rfl H2.out (by omega)).mono ?_
        rintro e w9 ⟨rfl, rfl⟩
        go_wp2_with fail
        go_ret
        exact ⟨ret_bool (by rw [hv]; simp [HL1.out, h2]), hbl.trans (hb2.mono (by omega))⟩
      · have h2' : decide ((0 : Int) < (a : Int)) = false := by simp; omega
        go_wp2_with fail
        go_ret
        exact ⟨ret_bool (by rw [hv]; simp [h2]), hbl⟩
    · have hl : (loop == (a : Int)) = false := by simpa using h1
      have HL1 := Lib.hid h1; clear h1
      go_wp2_with fail
      go_ret
      exact ⟨ret_bool (by rw [hv]; simp [HL1.out]), hbl⟩

set_option maxHeartbeats 3200000 in
set_option maxRecDepth 100000 in
theorem rasked_mid (B ic ec tsc tmc bsc bmc : Nat) (IA EA TS TM BS BM : Option Addr) (fn at_ loop : Int) (ins : List TI) (exits : List Ex) (turn back : Ex) (w : World) (h : TrAt w B ins exits turn back IA EA TS tsc TM tmc BS bsc BM bmc) (hB : B ≤ w.heap.size) (hil : ins.length ≤ 100000) (hel : exits.length ≤ 100000) (hf : ∀ y ∈ exits, (Liv.vals y).length * 8 ≤ 140737488355328) (hft : (Liv.vals turn).length * 8 ≤ 140737488355328) (hfb : (Liv.vals back).length * 8 ≤ 140737488355328) (v : Int) (a : Nat) (ha : a < ins.length) (hee : ∀ (k : Nat) (x : TI), ins[k]? = some x → x.exit < exits.length) :
    Calls Try.prog 74 #[.agg #[.int .i64 fn, .int .i64 at_, .int .i64 loop, .slice IA ins.length ic, .slice EA exits.length ec, .int .i64 turn.at_, .int .i64 turn.steps, .slice TS turn.sets.length tsc, .slice TM turn.makes.length tmc, .int .i64 back.at_, .int .i64 back.steps, .slice BS back.sets.length bsc, .slice BM back.makes.length bmc], .int .i64 v, .int .i64 a] w fun e w' => e = .returned (.bool (Liv.asked ins exits turn back loop v a)) ∧ Below w.heap.size w w' := by
  obtain ⟨b, o, x, rfl, hb, hx, d0, d1, d2, d3, d4, d5, d6, d7, -, j1, j2, j3, -⟩ := h.i.tI_ ha
  have hex := hee a x hx
  have hq : Liv.asked ins exits turn back loop v a = ((Liv.asks x).contains v || (Liv.exitVals exits x.exit).contains v || (decide (0 < loop) && decide ((a : Int) = loop) && (Liv.vals turn).contains v)) := by
    unfold Liv.asked Liv.insAsk; rw [if_neg (by omega), hx]; rfl
  rw [hq]; clear hq
  have H := Lib.hid (And.intro h hf); clear h hf hx hee
  have hao : ∀ z ∈ Liv.asks x, Flat.ok z := by
    intro z hz
    have := List.mem_of_mem_take hz
    simp at this; rcases this with rfl | rfl | rfl <;> assumption
  have hal : (Liv.asks x).length ≤ 3 := by unfold Liv.asks; rw [List.length_take]; have := Liv.asksN_le x.op; omega
  obtain ⟨N, hN⟩ : ∃ N, (Liv.asks x).length = N := ⟨_, rfl⟩
  rw [hN] at hal
  have HO := Lib.hid (And.intro hao hN); clear hao hN j1 j2 j3
  have haE : ((a : Int) == (ins.length : Int)) = false := by simp; omega
  have ha0 : (0 : Int) ≤ (a : Int) := by omega
  have ha1 : (a : Int) < (ins.length : Int) := by omega
  have hbw : b < w.heap.size := by omega
  go_enter Try.func74, Try.ntmps74
  go_wp2_with fail
  refine calls_world (fun W => Blk W w.heap.size 72 #[.int .i64 fn, .int .i64 at_, .int .i64 loop, .slice (some ⟨b, o, none⟩) ins.length ic, .slice EA exits.length ec, .int .i64 turn.at_, .int .i64 turn.steps, .slice TS turn.sets.length tsc, .slice TM turn.makes.length tmc, .int .i64 back.at_, .int .i64 back.steps, .slice BS back.sets.length bsc, .slice BM back.makes.length bmc] ∧ Blk W (w.heap.size + 1) 121 #[.int .i64 x.op, .int .i64 x.a, .int .i64 x.b, .int .i64 x.c, .int .i64 x.n, .int .i64 x.exit, .int .i64 x.k.1, .int .i64 x.k.2] ∧ Below w.heap.size w W ∧ w.heap.size + 2 ≤ W.heap.size) ⟨(Blk.new _ _ _).alloc _, Blk.at_ _ _ _ (by simp), ((Below.refl _ _).alloc (Nat.le_refl _) _).alloc (by simp) _, by simp⟩ ?_
  rintro W ⟨hX, hY, hb0, hs0⟩
  have HB := Lib.hid (And.intro hX hY); clear hX hY d0 d1 d2 d3 d4 d5 d6 d7
  have HT := Lib.hid (H.out.1.below (hb0.mono hB))
  refine (rasks_at x N W HO.out.2 HO.out.1).mono ?_
  rintro e w1 ⟨A1, d1, rfl, ho1, hb1⟩
  have hs1 := hb1.size
  have H1 := Lib.hid (And.intro ho1 (And.intro (HB.out.1.fresh hb1) (HB.out.2.fresh hb1))); clear ho1
  have hbl : Below w.heap.size w w1 := hb0.trans (hb1.mono (by omega))
  have lt1 : w.heap.size < w1.heap.size := by omega
  have lt2 : w.heap.size + 1 < w1.heap.size := by omega
  go_wp2_with fail
  refine (rhas_vals (Liv.asks x) A1 d1 w1.heap.size N v w1 HO.out.2 H1.out.1 (by omega)).mono ?_
  rintro e w9 ⟨rfl, rfl⟩
  cases hv : (Liv.asks x).contains v with
  | true =>
    go_wp2_with fail
    go_ret
    exact ⟨ret_bool (by rw [hv]; simp), hbl⟩
  | false =>
    have x5 := H1.out.2.2.cell 5 (v := .int .i64 x.exit) rfl
    have c2 := H1.out.2.1.cell 2 (v := .int .i64 loop) rfl
    by_cases h3 : 0 ≤ x.exit
    · obtain ⟨y, hy⟩ : ∃ y : Nat, x.exit = (y : Int) := ⟨x.exit.toNat, by omega⟩
      have hyl : y < exits.length := by omega
      obtain ⟨be, oe, ex, As, cs, Am, cm, rfl, hbE, hxx, e0, e1, e2, e3, as_, qs, am_, qm, r0, r1⟩ := (H.out.1.e.below (hbl.mono hB)).ex_ hyl
      have hev : Liv.exitVals exits x.exit = Liv.vals ex := by unfold Liv.exitVals; rw [if_neg (by omega), hy, Int.toNat_natCast, hxx]; rfl
      have hvb := H.out.2 ex (List.mem_of_getElem? hxx)
      have hok := Liv.vals_ok as_ am_
      have HEV := Lib.hid hev
      have HX := Lib.hid (And.intro as_ (And.intro am_ hok)); clear as_ am_ hok hxx hev qs qm r0 r1
      have c4 := H1.out.2.1.cell 4 (v := .slice (some ⟨be, oe, none⟩) exits.length ec) rfl
      have hbe : be < w1.heap.size := by omega
      have hy0 : (0 : Int) ≤ (y : Int) := by omega
      have hy1 : (y : Int) < (exits.length : Int) := by omega
      rw [hy] at x5
      clear hy h3 hex
      go_wp2_with fail
      refine (rvalues_any B cs cm _ As Am ex w1 HX.out.1 HX.out.2.1 (by omega) rfl hvb).mono ?_
      rintro e w2 ⟨A2, d2, rfl, ho2, hb2⟩
      have hs2 := hb2.size
      have ho2a := ho2.at_ HX.out.2.2
      have H2 := Lib.hid (And.intro ho2a (H1.out.2.1.fresh hb2)); clear ho2 ho2a e0 e1 e2 e3 x5 c2 c4
      have hbl2 : Below w.heap.size w w2 := hbl.trans (hb2.mono (by omega))
      have lt3 : w.heap.size < w2.heap.size := by omega
      go_wp2_with fail
      refine (rhas_vals (Liv.vals ex) A2 d2 w2.heap.size _ v w2 rfl H2.out.1 (by omega)).mono ?_
      rintro e w9 ⟨rfl, rfl⟩
      cases hv2 : (Liv.vals ex).contains v with
      | true =>
        go_wp2_with fail
        go_ret
        exact ⟨ret_bool (by rw [hv, HEV.out, hv2]; simp), hbl2⟩
      | false =>
        have c2 := H2.out.2.cell 2 (v := .int .i64 loop) rfl
        by_cases h1 : 0 < loop
        · by_cases h2 : (a : Int) = loop
          · have hl : ((a : Int) == loop) = true := by rw [h2]; simp
            have HL2 := Lib.hid h2; clear h2
            have t5 := H2.out.2.cell 5 (v := .int .i64 turn.at_) rfl
            have t6 := H2.out.2.cell 6 (v := .int .i64 turn.steps) rfl
            have t7 := H2.out.2.cell 7 (v := .slice TS turn.sets.length tsc) rfl
            have t8 := H2.out.2.cell 8 (v := .slice TM turn.makes.length tmc) rfl
            go_wp2_with fail
            refine (rvals_at B tsc tmc TS TM turn w2 ((HT.out.below (hb1.mono (by omega))).below (hb2.mono (by omega))).t (by omega) hft).mono ?_
            rintro e w3 ⟨A3, d3, rfl, ho3, hb3⟩
            have H3 := Lib.hid ho3; clear ho3 t5 t6 t7 t8
            go_wp2_with fail
            refine (rhas_vals (Liv.vals turn) A3 d3 w3.heap.size _ v w3 rfl H3.out (by omega)).mono ?_
            rintro e w9 ⟨rfl, rfl⟩
            go_wp2_with fail
            go_ret
            exact ⟨ret_bool (by rw [hv, HEV.out, hv2]; simp [HL2.out, h1]), hbl2.trans (hb3.mono (by omega))⟩
          · have hl : ((a : Int) == loop) = false := by simpa using h2
            have HL2 := Lib.hid h2; clear h2
            go_wp2_with fail
            go_ret
            exact ⟨ret_bool (by rw [hv, HEV.out, hv2]; simp [HL2.out]), hbl2⟩
        · have h1' : decide (0 < loop) = false := by simpa using h1
          have HL1 := Lib.hid h1; clear h1
          go_wp2_with fail
          go_ret
          exact ⟨ret_bool (by rw [hv, HEV.out, hv2, h1']; simp), hbl2⟩
    · have hev : Liv.exitVals exits x.exit = [] := by unfold Liv.exitVals; rw [if_pos (by omega)]
      have HEV := Lib.hid hev
      have h3' : decide (0 ≤ x.exit) = false := by simpa using h3
      clear h3 hev hex
      by_cases h1 : 0 < loop
      · by_cases h2 : (a : Int) = loop
        · have hl : ((a : Int) == loop) = true := by rw [h2]; simp
          have HL2 := Lib.hid h2; clear h2
          have t5 := H1.out.2.1.cell 5 (v := .int .i64 turn.at_) rfl
          have t6 := H1.out.2.1.cell 6 (v := .int .i64 turn.steps) rfl
          have t7 := H1.out.2.1.cell 7 (v := .slice TS turn.sets.length tsc) rfl
          have t8 := H1.out.2.1.cell 8 (v := .slice TM turn.makes.length tmc) rfl
          go_wp2_with fail
          refine (rvals_at B tsc tmc TS TM turn w1 (HT.out.below (hb1.mono (by omega))).t (by omega) hft).mono ?_
          rintro e w3 ⟨A3, d3, rfl, ho3, hb3⟩
          have H3 := Lib.hid ho3; clear ho3 t5 t6 t7 t8
          go_wp2_with fail
          refine (rhas_vals (Liv.vals turn) A3 d3 w3.heap.size _ v w3 rfl H3.out (by omega)).mono ?_
          rintro e w9 ⟨rfl, rfl⟩
          go_wp2_with fail
          go_ret
          exact ⟨ret_bool (by rw [hv, HEV.out]; simp [HL2.out, h1]), hbl.trans (hb3.mono (by omega))⟩
        · have hl : ((a : Int) == loop) = false := by simpa using h2
          have HL2 := Lib.hid h2; clear h2
          go_wp2_with fail
          go_ret
          exact ⟨ret_bool (by rw [hv, HEV.out]; simp [HL2.out]), hbl⟩
      · have h1' : decide (0 < loop) = false := by simpa using h1
        have HL1 := Lib.hid h1; clear h1
        go_wp2_with fail
        go_ret
        exact ⟨ret_bool (by rw [hv, HEV.out, h1']; simp), hbl⟩

theorem rasked_any (B ic ec tsc tmc bsc bmc : Nat) (IA EA TS TM BS BM : Option Addr) (fn at_ loop : Int) (ins : List TI) (exits : List Ex) (turn back : Ex) (w : World) (h : TrAt w B ins exits turn back IA EA TS tsc TM tmc BS bsc BM bmc) (hB : B ≤ w.heap.size) (hil : ins.length ≤ 100000) (hel : exits.length ≤ 100000) (hf : ∀ y ∈ exits, (Liv.vals y).length * 8 ≤ 140737488355328) (hft : (Liv.vals turn).length * 8 ≤ 140737488355328) (hfb : (Liv.vals back).length * 8 ≤ 140737488355328) (v : Int) (a : Nat) (ha : a ≤ ins.length) (hee : ∀ (k : Nat) (x : TI), ins[k]? = some x → x.exit < exits.length) :
    Calls Try.prog 74 #[.agg #[.int .i64 fn, .int .i64 at_, .int .i64 loop, .slice IA ins.length ic, .slice EA exits.length ec, .int .i64 turn.at_, .int .i64 turn.steps, .slice TS turn.sets.length tsc, .slice TM turn.makes.length tmc, .int .i64 back.at_, .int .i64 back.steps, .slice BS back.sets.length bsc, .slice BM back.makes.length bmc], .int .i64 v, .int .i64 a] w fun e w' => e = .returned (.bool (Liv.asked ins exits turn back loop v a)) ∧ Below w.heap.size w w' := by
  by_cases h1 : a = ins.length
  · exact rasked_end B ic ec tsc tmc bsc bmc IA EA TS TM BS BM fn at_ loop ins exits turn back w h hB hil hel hf hft hfb v a h1
  · exact rasked_mid B ic ec tsc tmc bsc bmc IA EA TS TM BS BM fn at_ loop ins exits turn back w h hB hil hel hf hft hfb v a (by omega) hee

end Go.Proofs.Ytljdnadejmkaeaa
