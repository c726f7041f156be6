/- The reference: what is wrong with a trace. -/
import Derived.Test.YtljdnadejmkaeaaLive20
import Derived.Deep.DeepCutAuto
namespace Go.Proofs.Ytljdnadejmkaeaa
open Go.RowKit

attribute [local go_sem ↓] Go.wp_at_zero Go.wp_at_succ

set_option maxHeartbeats 6400000 in
set_option maxRecDepth 100000 in
theorem rfault_any (B ic ec tsc tmc bsc bmc : Nat) (IA EA TS TM BS BM : Option Addr) (fn at_ loop : Int) (ins : List TI) (exits : List Ex) (turn back : Ex) (w : World) (h : TrAt w B ins exits turn back IA EA TS tsc TM tmc BS bsc BM bmc) (hB : B ≤ w.heap.size) (hil : ins.length ≤ 9223372036854775807) (hel : exits.length ≤ 9223372036854775807) (hf : ∀ y ∈ exits, (Liv.vals y).length * 8 ≤ 140737488355328) (hft : (Liv.vals turn).length * 8 ≤ 140737488355328) (hfb : (Liv.vals back).length * 8 ≤ 140737488355328) :
    Calls Try.prog 29 #[.agg #[.int .i64 fn, .int .i64 at_, .int .i64 loop, .slice IA ins.length ic, .slice EA exits.length ec, .int .i64 turn.at_, .int .i64 turn.steps, .slice TS turn.sets.length tsc, .slice TM turn.makes.length tmc, .int .i64 back.at_, .int .i64 back.steps, .slice BS back.sets.length bsc, .slice BM back.makes.length bmc]] w fun e w' => e = .returned (.int .i64 (Liv.fault ins exits turn back loop)) ∧ Below w.heap.size w w' := by
  have H := Lib.hid (And.intro h (And.intro hf (And.intro hft hfb))); clear h hf hft hfb
  obtain ⟨q, hq⟩ : ∃ q, Liv.fault ins exits turn back loop = q := ⟨_, rfl⟩
  rw [hq]
  have HQ0 := Lib.hid hq; clear hq
  by_cases h1 : 300 < ins.length
  · have hq : q = 2 := by rw [← HQ0.out]; unfold Liv.fault; rw [if_pos (.inl h1)]
    subst hq
    have h1' : (300 : Int) < (ins.length : Int) := by omega
    go_enter Try.func29, Try.ntmps29
    go_wp2_with fail
    go_ret
    exact ⟨rfl, (Below.refl _ _).alloc (Nat.le_refl _) _⟩
  have h1' : ¬ (300 : Int) < (ins.length : Int) := by omega
  by_cases h2 : 200 < exits.length
  · have hq : q = 2 := by rw [← HQ0.out]; unfold Liv.fault; rw [if_pos (.inr h2)]
    subst hq
    have h2' : (200 : Int) < (exits.length : Int) := by omega
    go_enter Try.func29, Try.ntmps29
    go_wp2_with fail
    go_ret
    exact ⟨rfl, (Below.refl _ _).alloc (Nat.le_refl _) _⟩
  have h2' : ¬ (200 : Int) < (exits.length : Int) := by omega
  have hn12 : ¬ (300 < ins.length ∨ 200 < exits.length) := by omega
  by_cases h3 : loop < 0
  · have hq : q = 3 := by rw [← HQ0.out]; unfold Liv.fault; rw [if_neg hn12, if_pos (.inl h3)]
    subst hq
    go_enter Try.func29, Try.ntmps29
    go_wp2_with fail
    go_ret
    exact ⟨rfl, (Below.refl _ _).alloc (Nat.le_refl _) _⟩
  by_cases h4 : (ins.length : Int) < loop
  · have hq : q = 3 := by rw [← HQ0.out]; unfold Liv.fault; rw [if_neg hn12, if_pos (.inr h4)]
    subst hq
    go_enter Try.func29, Try.ntmps29
    go_wp2_with fail
    go_ret
    exact ⟨rfl, (Below.refl _ _).alloc (Nat.le_refl _) _⟩
  have hq : q = if Liv.fst (Liv.ones ins exits) ≠ 0 then Liv.fst (Liv.ones ins exits) else Liv.tailF ins exits turn back loop := by
    rw [← HQ0.out]; unfold Liv.fault; rw [if_neg hn12, if_neg (by omega)]
  have HQ := Lib.hid hq; clear hq HQ0 hn12
  go_enter Try.func29, Try.ntmps29
  go_wp2_with fail
  refine wp_world (fun W => Blk W w.heap.size 72 #[.int .i64 fn, .int .i64 at_, .int .i64 loop, .slice IA ins.length ic, .slice EA exits.length ec, .int .i64 turn.at_, .int .i64 turn.steps, .slice TS turn.sets.length tsc, .slice TM turn.makes.length tmc, .int .i64 back.at_, .int .i64 back.steps, .slice BS back.sets.length bsc, .slice BM back.makes.length bmc] ∧ Below w.heap.size w W ∧ w.heap.size + 1 ≤ W.heap.size) ⟨Blk.new _ _ _, (Below.refl _ _).alloc (Nat.le_refl _) _, by simp⟩ ?_
  rintro W ⟨hT, hb0, hs0⟩
  have HTN := Lib.hid hT; clear hT
  go_loopg [4, 5, 33] (ins.length) (fun gk i4 x5 iv wr => ∃ (k : Nat), k ≤ ins.length ∧ gk = ins.length - k ∧ iv = .int .i64 k ∧ Hid (((Liv.ones ins exits).take k).any (fun e => e != 0) = false) ∧ Below (w.heap.size + 1) W wr ∧ w.heap.size + 1 ≤ wr.heap.size)
  case atStart => exact ⟨0, Nat.zero_le _, rfl, rfl, by simp [Hid], Below.refl _ _, hs0⟩
  case round =>
    obtain ⟨k, hk, rfl, rfl, hno, hbl, hsz⟩ := hrel
    have hbw : Below w.heap.size w wr := hb0.trans (hbl.mono (by omega))
    have hTr : Blk wr w.heap.size 72 #[.int .i64 fn, .int .i64 at_, .int .i64 loop, .slice IA ins.length ic, .slice EA exits.length ec, .int .i64 turn.at_, .int .i64 turn.steps, .slice TS turn.sets.length tsc, .slice TM turn.makes.length tmc, .int .i64 back.at_, .int .i64 back.steps, .slice BS back.sets.length bsc, .slice BM back.makes.length bmc] := (hbl.block _ (by omega)).trans HTN.out
    have HB := Lib.hid hTr; clear hTr
    have ltr : w.heap.size < wr.heap.size := by omega
    by_cases hlt : k < ins.length
    · have hk0 : (0 : Int) ≤ (k : Int) := by omega
      have hk1 : (k : Int) < (ins.length : Int) := by omega
      obtain ⟨b, o, x, rfl, hb, hx, d0, d1, d2, d3, d4, d5, d6, d7, j0, j1, j2, j3, j4, j5, j6, j7⟩ := (H.out.1.i.below (hbw.mono hB)).tI_ hlt
      obtain ⟨r, hr⟩ : ∃ r, Liv.oneF ins exits k x = r := ⟨_, rfl⟩
      have hg := Liv.ones_get ins exits k x hx
      rw [hr] at hg
      have hsn := any_snoc (fun e : Int => e != 0) _ k r hg
      rw [hno.out, Bool.false_or] at hsn
      have hqr : r ≠ 0 → q = r := fun h0 => by rw [HQ.out, Liv.fst_hit _ k r hg h0 hno.out, if_pos h0]
      have hao : ∀ z ∈ Liv.asks x, Flat.ok z := by
        intro z hz
        have := List.mem_of_mem_take hz
        simp at this; rcases this with rfl | rfl | rfl <;> assumption
      have hal : (Liv.asks x).length ≤ 3 := by unfold Liv.asks; rw [List.length_take]; have := Liv.asksN_le x.op; omega
      obtain ⟨NA, hNA⟩ : ∃ NA, (Liv.asks x).length = NA := ⟨_, rfl⟩
      rw [hNA] at hal
      have HG := Lib.hid (And.intro hqr (And.intro hsn (And.intro hr (And.intro hao hNA)))); clear hg hsn hr hx hno hqr hao hNA j0 j1 j2 j3 j4 j5 j6 j7
      have hbw1 : b < wr.heap.size := by omega
      have p3 := HB.out.cell 3 (v := .slice (some ⟨b, o, none⟩) ins.length ic) rfl
      by_cases ho1 : x.op < 1
      · have h7 : r = 7 := by rw [← HG.out.2.2.1]; unfold Liv.oneF; rw [if_pos (by simp [Liv.isOp]; omega)]
        have hq7 : q = 7 := by rw [HG.out.1 (by omega), h7]
        subst hq7
        go_wp2_with fail
        go_ret
        exact ⟨rfl, hbw.alloc (by omega) _⟩
      by_cases ho2 : 20 ≤ x.op
      · have h7 : r = 7 := by rw [← HG.out.2.2.1]; unfold Liv.oneF; rw [if_pos (by simp [Liv.isOp]; omega)]
        have hq7 : q = 7 := by rw [HG.out.1 (by omega), h7]
        subst hq7
        go_wp2_with fail
        go_ret
        exact ⟨rfl, hbw.alloc (by omega) _⟩
      have ho3 : decide (x.op < 1) = false := by simpa using ho1
      have ho4 : decide (20 ≤ x.op) = false := by simpa using ho2
      have hr2 : r = if ((Liv.asks x).any (Liv.bad ins k) || decide (x.exit < -1) || decide ((exits.length : Int) ≤ x.exit)) = true then 3 else if (Liv.exitVals exits x.exit).any (Liv.bad ins k) = true then 3 else 0 := by
        rw [← HG.out.2.2.1]; unfold Liv.oneF; rw [if_neg (by simp [Liv.isOp]; omega)]
      have HR := Lib.hid hr2; clear hr2
      go_wp2_with fail
      refine wp_world (fun V => Blk V w.heap.size 72 #[.int .i64 fn, .int .i64 at_, .int .i64 loop, .slice (some ⟨b, o, none⟩) ins.length ic, .slice EA exits.length ec, .int .i64 turn.at_, .int .i64 turn.steps, .slice TS turn.sets.length tsc, .slice TM turn.makes.length tmc, .int .i64 back.at_, .int .i64 back.steps, .slice BS back.sets.length bsc, .slice BM back.makes.length bmc] ∧ Blk V wr.heap.size 121 #[.int .i64 x.op, .int .i64 x.a, .int .i64 x.b, .int .i64 x.c, .int .i64 x.n, .int .i64 x.exit, .int .i64 x.k.1, .int .i64 x.k.2] ∧ Below wr.heap.size wr V ∧ wr.heap.size + 1 ≤ V.heap.size) ⟨HB.out.alloc _, Blk.new _ _ _, (Below.refl _ _).alloc (Nat.le_refl _) _, by simp⟩ ?_
      rintro V ⟨hTV, hXV, hbV, hsV⟩
      clear d0 d1 d2 d3 d4 d5 d6 d7 p3 ho1 ho2 ho3 ho4
      have hbw2 : Below w.heap.size w V := hbw.trans (hbV.mono (by omega))
      have HV := Lib.hid (And.intro hTV hXV); clear hTV hXV HB
      have ltV : w.heap.size < V.heap.size := by omega
      have ltV2 : wr.heap.size < V.heap.size := by omega
      obtain ⟨b1, hb1d⟩ : ∃ b1, ((Liv.asks x).any (Liv.bad ins k) || decide (x.exit < -1) || decide ((exits.length : Int) ≤ x.exit)) = b1 := ⟨_, rfl⟩
      have HB1 := Lib.hid hb1d; clear hb1d
      go_cut [64] (fun ov W2 => ov = .bool b1 ∧ Below V.heap.size V W2)
      case first =>
        cases hbad : (Liv.asks x).any (Liv.bad ins k) with
        | true =>
          have ht : b1 = true := by rw [← HB1.out, hbad]; rfl
          have HBD := Lib.hid hbad; clear hbad
          subst ht
          refine wp_region_held_drew (S := (fun w' => w'.cell? ⟨w.heap.size, 0, none⟩ = some (.int .i64 fn) ∧ w'.cell? ⟨w.heap.size, 1, none⟩ = some (.int .i64 at_) ∧ w'.cell? ⟨w.heap.size, 2, none⟩ = some (.int .i64 loop) ∧ w'.cell? ⟨w.heap.size, 3, none⟩ = some (.slice (some ⟨b, o, none⟩) ins.length ic) ∧ w'.cell? ⟨w.heap.size, 4, none⟩ = some (.slice EA exits.length ec) ∧ w'.cell? ⟨w.heap.size, 5, none⟩ = some (.int .i64 turn.at_) ∧ w'.cell? ⟨w.heap.size, 6, none⟩ = some (.int .i64 turn.steps) ∧ w'.cell? ⟨w.heap.size, 7, none⟩ = some (.slice TS turn.sets.length tsc) ∧ w'.cell? ⟨w.heap.size, 8, none⟩ = some (.slice TM turn.makes.length tmc) ∧ w'.cell? ⟨w.heap.size, 9, none⟩ = some (.int .i64 back.at_) ∧ w'.cell? ⟨w.heap.size, 10, none⟩ = some (.int .i64 back.steps) ∧ w'.cell? ⟨w.heap.size, 11, none⟩ = some (.slice BS back.sets.length bsc) ∧ w'.cell? ⟨w.heap.size, 12, none⟩ = some (.slice BM back.makes.length bmc) ∧ w'.cell? ⟨wr.heap.size, 0, none⟩ = some (.int .i64 x.op) ∧ w'.cell? ⟨wr.heap.size, 1, none⟩ = some (.int .i64 x.a) ∧ w'.cell? ⟨wr.heap.size, 2, none⟩ = some (.int .i64 x.b) ∧ w'.cell? ⟨wr.heap.size, 3, none⟩ = some (.int .i64 x.c) ∧ w'.cell? ⟨wr.heap.size, 4, none⟩ = some (.int .i64 x.n) ∧ w'.cell? ⟨wr.heap.size, 5, none⟩ = some (.int .i64 x.exit) ∧ w'.cell? ⟨wr.heap.size, 6, none⟩ = some (.int .i64 x.k.1) ∧ w'.cell? ⟨wr.heap.size, 7, none⟩ = some (.int .i64 x.k.2))) (by kernel_rfl) ?_ (fun hHeld0 => ?_)
          · first | trivial | ((try dsimp only); ((obtain ⟨p0, p1, p2, p3, p4, p5, p6, p7, p8, p9, p10, p11, p12⟩ := (HV.out.1.drew).cells13; obtain ⟨q0, q1, q2, q3, q4, q5, q6, q7⟩ := (HV.out.2.drew).cells8; exact ⟨p0, p1, p2, p3, p4, p5, p6, p7, p8, p9, p10, p11, p12, q0, q1, q2, q3, q4, q5, q6, q7⟩)))
          refine held_take (v := ?_) 0 rfl (by kernel_rfl) (by kernel_rfl) (by kernel_rfl) (fun _ _ _ h => h) (by rfl) ?_ (by assumption) ?_
          rotate_left
          · (intro w hSw; (try dsimp only at hSw); go_simp; try with_reducible rfl)
          try simp only [Act.put, List.setIfInBounds_toArray, List.set_cons_zero, List.set_cons_succ]
          refine held_take (v := ?_) 1 rfl (by kernel_rfl) (by kernel_rfl) (by kernel_rfl) (fun _ _ _ h => h) (by rfl) ?_ (by assumption) ?_
          rotate_left
          · (intro w hSw; (try dsimp only at hSw); go_simp; try with_reducible rfl)
          try simp only [Act.put, List.setIfInBounds_toArray, List.set_cons_zero, List.set_cons_succ]
          refine held_take (v := ?_) 3 rfl (by kernel_rfl) (by kernel_rfl) (by kernel_rfl) (fun _ _ _ h => h) (by rfl) ?_ (by assumption) ?_
          rotate_left
          · (intro w hSw; (try dsimp only at hSw); go_simp; try with_reducible rfl)
          try simp only [Act.put, List.setIfInBounds_toArray, List.set_cons_zero, List.set_cons_succ]
          refine held_call 2 (by kernel_rfl) rfl (fun K hK => ?_)
          go_simp
          go_at_call 62; refine (rasks_at x NA _ HG.out.2.2.2.2 HG.out.2.2.2.1).mono ?_; rintro e w1 ⟨A1, d1, rfl, ho1, hb1d⟩; have hb1 : Below V.heap.size V w1 := undrew hb1d; clear hb1d; have hs1 := hb1.size
          try (go_wp2_with fail)
          refine hK.out _ _ ?_ (fun hHeld1 => ?_)
          · first | trivial | ((try dsimp only); ((obtain ⟨p0, p1, p2, p3, p4, p5, p6, p7, p8, p9, p10, p11, p12⟩ := (HV.out.1.fresh hb1).cells13; obtain ⟨q0, q1, q2, q3, q4, q5, q6, q7⟩ := (HV.out.2.fresh hb1).cells8; exact ⟨p0, p1, p2, p3, p4, p5, p6, p7, p8, p9, p10, p11, p12, q0, q1, q2, q3, q4, q5, q6, q7⟩)))
          clear hK K hHeld0
          try simp only [Act.put, List.setIfInBounds_toArray, List.set_cons_zero, List.set_cons_succ]
          refine held_call 4 (by kernel_rfl) rfl (fun K hK => ?_)
          go_simp
          go_at_call 61; refine (rmay_any B w1.heap.size ic d1 NA _ A1 ins (Liv.asks x) k _ _ _ _ _ _ _ _ _ _ _ _ w1 (H.out.1.i.below ((hbw2.trans (hb1.mono (by omega))).mono hB)) (by omega) hil (by omega) HG.out.2.2.2.2 ho1 (Nat.le_refl _) (by omega)).mono ?_; rintro e w2 ⟨he, hb2⟩; obtain rfl : e = .returned (.bool false) := (by (rw [he, HBD.out]; rfl)); clear he
          try (go_wp2_with fail)
          refine hK.out _ _ ?_ (fun hHeld2 => ?_)
          · first | trivial | ((try dsimp only); ((obtain ⟨p0, p1, p2, p3, p4, p5, p6, p7, p8, p9, p10, p11, p12⟩ := ((HV.out.1.fresh hb1).fresh hb2).cells13; obtain ⟨q0, q1, q2, q3, q4, q5, q6, q7⟩ := ((HV.out.2.fresh hb1).fresh hb2).cells8; exact ⟨p0, p1, p2, p3, p4, p5, p6, p7, p8, p9, p10, p11, p12, q0, q1, q2, q3, q4, q5, q6, q7⟩)))
          clear hK K hHeld1
          try simp only [Act.put, List.setIfInBounds_toArray, List.set_cons_zero, List.set_cons_succ]
          refine held_take (v := ?_) 5 rfl (by kernel_rfl) (by kernel_rfl) (by kernel_rfl) (fun _ _ _ h => h) (by rfl) ?_ (by assumption) ?_
          rotate_left
          · (intro w hSw; (try dsimp only at hSw); go_simp; try with_reducible rfl)
          try simp only [Act.put, List.setIfInBounds_toArray, List.set_cons_zero, List.set_cons_succ]
          refine held_take (v := ?_) 6 rfl (by kernel_rfl) (by kernel_rfl) (by kernel_rfl) (fun _ _ _ h => h) (by rfl) ?_ (by assumption) ?_
          rotate_left
          · (intro w hSw; (try dsimp only at hSw); go_simp; try with_reducible rfl)
          try simp only [Act.put, List.setIfInBounds_toArray, List.set_cons_zero, List.set_cons_succ]
          refine held_skip 7 rfl (by kernel_rfl) (by kernel_rfl) (by kernel_rfl) (fun _ _ _ h => h) (by rfl) (by assumption) ?_
          try simp only [Act.put, List.setIfInBounds_toArray, List.set_cons_zero, List.set_cons_succ]
          refine held_skip 8 rfl (by kernel_rfl) (by kernel_rfl) (by kernel_rfl) (fun _ _ _ h => h) (by rfl) (by assumption) ?_
          try simp only [Act.put, List.setIfInBounds_toArray, List.set_cons_zero, List.set_cons_succ]
          refine held_skip 9 rfl (by kernel_rfl) (by kernel_rfl) (by kernel_rfl) (fun _ _ _ h => h) (by rfl) (by assumption) ?_
          try simp only [Act.put, List.setIfInBounds_toArray, List.set_cons_zero, List.set_cons_succ]
          refine held_take (v := ?_) 10 rfl (by kernel_rfl) (by kernel_rfl) (by kernel_rfl) (fun _ _ _ h => h) (by rfl) ?_ (by assumption) ?_
          rotate_left
          · (intro w hSw; (try dsimp only at hSw); go_simp; try with_reducible rfl)
          try simp only [Act.put, List.setIfInBounds_toArray, List.set_cons_zero, List.set_cons_succ]
          refine held_take (v := ?_) 11 rfl (by kernel_rfl) (by kernel_rfl) (by kernel_rfl) (fun _ _ _ h => h) (by rfl) ?_ (by assumption) ?_
          rotate_left
          · (intro w hSw; (try dsimp only at hSw); go_simp; try with_reducible rfl)
          try simp only [Act.put, List.setIfInBounds_toArray, List.set_cons_zero, List.set_cons_succ]
          refine held_skip 12 rfl (by kernel_rfl) (by kernel_rfl) (by kernel_rfl) (fun _ _ _ h => h) (by rfl) (by assumption) ?_
          try simp only [Act.put, List.setIfInBounds_toArray, List.set_cons_zero, List.set_cons_succ]
          refine held_skip 13 rfl (by kernel_rfl) (by kernel_rfl) (by kernel_rfl) (fun _ _ _ h => h) (by rfl) (by assumption) ?_
          try simp only [Act.put, List.setIfInBounds_toArray, List.set_cons_zero, List.set_cons_succ]
          refine held_skip 14 rfl (by kernel_rfl) (by kernel_rfl) (by kernel_rfl) (fun _ _ _ h => h) (by rfl) (by assumption) ?_
          try simp only [Act.put, List.setIfInBounds_toArray, List.set_cons_zero, List.set_cons_succ]
          refine held_skip 15 rfl (by kernel_rfl) (by kernel_rfl) (by kernel_rfl) (fun _ _ _ h => h) (by rfl) (by assumption) ?_
          try simp only [Act.put, List.setIfInBounds_toArray, List.set_cons_zero, List.set_cons_succ]
          refine held_skip 16 rfl (by kernel_rfl) (by kernel_rfl) (by kernel_rfl) (fun _ _ _ h => h) (by rfl) (by assumption) ?_
          try simp only [Act.put, List.setIfInBounds_toArray, List.set_cons_zero, List.set_cons_succ]
          refine held_skip 17 rfl (by kernel_rfl) (by kernel_rfl) (by kernel_rfl) (fun _ _ _ h => h) (by rfl) (by assumption) ?_
          try simp only [Act.put, List.setIfInBounds_toArray, List.set_cons_zero, List.set_cons_succ]
          refine held_take (v := ?_) 18 rfl (by kernel_rfl) (by kernel_rfl) (by kernel_rfl) (fun _ _ _ h => h) (by rfl) ?_ (by assumption) ?_
          rotate_left
          · (intro w hSw; (try dsimp only at hSw); go_simp; try with_reducible rfl)
          try simp only [Act.put, List.setIfInBounds_toArray, List.set_cons_zero, List.set_cons_succ]
          refine wpAnyH_done (by kernel_rfl) ?_ _
          clear ho1
          go_wp2_with fail
          go_meet
          exact ⟨rfl, hb1.trans (hb2.mono (by omega))⟩
        | false =>
          by_cases h5 : x.exit < -1
          · have ht : b1 = true := by rw [← HB1.out]; simp [h5]
            have HBD := Lib.hid hbad; clear hbad
            subst ht
            refine wp_region_held_drew (S := (fun w' => w'.cell? ⟨w.heap.size, 0, none⟩ = some (.int .i64 fn) ∧ w'.cell? ⟨w.heap.size, 1, none⟩ = some (.int .i64 at_) ∧ w'.cell? ⟨w.heap.size, 2, none⟩ = some (.int .i64 loop) ∧ w'.cell? ⟨w.heap.size, 3, none⟩ = some (.slice (some ⟨b, o, none⟩) ins.length ic) ∧ w'.cell? ⟨w.heap.size, 4, none⟩ = some (.slice EA exits.length ec) ∧ w'.cell? ⟨w.heap.size, 5, none⟩ = some (.int .i64 turn.at_) ∧ w'.cell? ⟨w.heap.size, 6, none⟩ = some (.int .i64 turn.steps) ∧ w'.cell? ⟨w.heap.size, 7, none⟩ = some (.slice TS turn.sets.length tsc) ∧ w'.cell? ⟨w.heap.size, 8, none⟩ = some (.slice TM turn.makes.length tmc) ∧ w'.cell? ⟨w.heap.size, 9, none⟩ = some (.int .i64 back.at_) ∧ w'.cell? ⟨w.heap.size, 10, none⟩ = some (.int .i64 back.steps) ∧ w'.cell? ⟨w.heap.size, 11, none⟩ = some (.slice BS back.sets.length bsc) ∧ w'.cell? ⟨w.heap.size, 12, none⟩ = some (.slice BM back.makes.length bmc) ∧ w'.cell? ⟨wr.heap.size, 0, none⟩ = some (.int .i64 x.op) ∧ w'.cell? ⟨wr.heap.size, 1, none⟩ = some (.int .i64 x.a) ∧ w'.cell? ⟨wr.heap.size, 2, none⟩ = some (.int .i64 x.b) ∧ w'.cell? ⟨wr.heap.size, 3, none⟩ = some (.int .i64 x.c) ∧ w'.cell? ⟨wr.heap.size, 4, none⟩ = some (.int .i64 x.n) ∧ w'.cell? ⟨wr.heap.size, 5, none⟩ = some (.int .i64 x.exit) ∧ w'.cell? ⟨wr.heap.size, 6, none⟩ = some (.int .i64 x.k.1) ∧ w'.cell? ⟨wr.heap.size, 7, none⟩ = some (.int .i64 x.k.2))) (by kernel_rfl) ?_ (fun hHeld0 => ?_)
            · first | trivial | ((try dsimp only); ((obtain ⟨p0, p1, p2, p3, p4, p5, p6, p7, p8, p9, p10, p11, p12⟩ := (HV.out.1.drew).cells13; obtain ⟨q0, q1, q2, q3, q4, q5, q6, q7⟩ := (HV.out.2.drew).cells8; exact ⟨p0, p1, p2, p3, p4, p5, p6, p7, p8, p9, p10, p11, p12, q0, q1, q2, q3, q4, q5, q6, q7⟩)))
            refine held_take (v := ?_) 0 rfl (by kernel_rfl) (by kernel_rfl) (by kernel_rfl) (fun _ _ _ h => h) (by rfl) ?_ (by assumption) ?_
            rotate_left
            · (intro w hSw; (try dsimp only at hSw); go_simp; try with_reducible rfl)
            try simp only [Act.put, List.setIfInBounds_toArray, List.set_cons_zero, List.set_cons_succ]
            refine held_take (v := ?_) 1 rfl (by kernel_rfl) (by kernel_rfl) (by kernel_rfl) (fun _ _ _ h => h) (by rfl) ?_ (by assumption) ?_
            rotate_left
            · (intro w hSw; (try dsimp only at hSw); go_simp; try with_reducible rfl)
            try simp only [Act.put, List.setIfInBounds_toArray, List.set_cons_zero, List.set_cons_succ]
            refine held_take (v := ?_) 3 rfl (by kernel_rfl) (by kernel_rfl) (by kernel_rfl) (fun _ _ _ h => h) (by rfl) ?_ (by assumption) ?_
            rotate_left
            · (intro w hSw; (try dsimp only at hSw); go_simp; try with_reducible rfl)
            try simp only [Act.put, List.setIfInBounds_toArray, List.set_cons_zero, List.set_cons_succ]
            refine held_call 2 (by kernel_rfl) rfl (fun K hK => ?_)
            go_simp
            go_at_call 62; refine (rasks_at x NA _ HG.out.2.2.2.2 HG.out.2.2.2.1).mono ?_; rintro e w1 ⟨A1, d1, rfl, ho1, hb1d⟩; have hb1 : Below V.heap.size V w1 := undrew hb1d; clear hb1d; have hs1 := hb1.size
            try (go_wp2_with fail)
            refine hK.out _ _ ?_ (fun hHeld1 => ?_)
            · first | trivial | ((try dsimp only); ((obtain ⟨p0, p1, p2, p3, p4, p5, p6, p7, p8, p9, p10, p11, p12⟩ := (HV.out.1.fresh hb1).cells13; obtain ⟨q0, q1, q2, q3, q4, q5, q6, q7⟩ := (HV.out.2.fresh hb1).cells8; exact ⟨p0, p1, p2, p3, p4, p5, p6, p7, p8, p9, p10, p11, p12, q0, q1, q2, q3, q4, q5, q6, q7⟩)))
            clear hK K hHeld0
            try simp only [Act.put, List.setIfInBounds_toArray, List.set_cons_zero, List.set_cons_succ]
            refine held_call 4 (by kernel_rfl) rfl (fun K hK => ?_)
            go_simp
            go_at_call 61; refine (rmay_any B w1.heap.size ic d1 NA _ A1 ins (Liv.asks x) k _ _ _ _ _ _ _ _ _ _ _ _ w1 (H.out.1.i.below ((hbw2.trans (hb1.mono (by omega))).mono hB)) (by omega) hil (by omega) HG.out.2.2.2.2 ho1 (Nat.le_refl _) (by omega)).mono ?_; rintro e w2 ⟨he, hb2⟩; obtain rfl : e = .returned (.bool true) := (by (rw [he, HBD.out]; rfl)); clear he
            try (go_wp2_with fail)
            refine hK.out _ _ ?_ (fun hHeld2 => ?_)
            · first | trivial | ((try dsimp only); ((obtain ⟨p0, p1, p2, p3, p4, p5, p6, p7, p8, p9, p10, p11, p12⟩ := ((HV.out.1.fresh hb1).fresh hb2).cells13; obtain ⟨q0, q1, q2, q3, q4, q5, q6, q7⟩ := ((HV.out.2.fresh hb1).fresh hb2).cells8; exact ⟨p0, p1, p2, p3, p4, p5, p6, p7, p8, p9, p10, p11, p12, q0, q1, q2, q3, q4, q5, q6, q7⟩)))
            clear hK K hHeld1
            try simp only [Act.put, List.setIfInBounds_toArray, List.set_cons_zero, List.set_cons_succ]
            refine held_take (v := ?_) 5 rfl (by kernel_rfl) (by kernel_rfl) (by kernel_rfl) (fun _ _ _ h => h) (by rfl) ?_ (by assumption) ?_
            rotate_left
            · (intro w hSw; (try dsimp only at hSw); go_simp; try with_reducible rfl)
            try simp only [Act.put, List.setIfInBounds_toArray, List.set_cons_zero, List.set_cons_succ]
            refine held_take (v := ?_) 6 rfl (by kernel_rfl) (by kernel_rfl) (by kernel_rfl) (fun _ _ _ h => h) (by rfl) ?_ (by assumption) ?_
            rotate_left
            · (intro w hSw; (try dsimp only at hSw); go_simp; try with_reducible rfl)
            try simp only [Act.put, List.setIfInBounds_toArray, List.set_cons_zero, List.set_cons_succ]
            refine held_take (v := ?_) 7 rfl (by kernel_rfl) (by kernel_rfl) (by kernel_rfl) (fun _ _ _ h => h) (by rfl) ?_ (by assumption) ?_
            rotate_left
            · (intro w hSw; (try dsimp only at hSw); go_simp; try with_reducible rfl)
            try simp only [Act.put, List.setIfInBounds_toArray, List.set_cons_zero, List.set_cons_succ]
            refine held_take (v := ?_) 8 rfl (by kernel_rfl) (by kernel_rfl) (by kernel_rfl) (fun _ _ _ h => h) (by rfl) ?_ (by assumption) ?_
            rotate_left
            · (intro w hSw; (try dsimp only at hSw); go_simp; try with_reducible rfl)
            try simp only [Act.put, List.setIfInBounds_toArray, List.set_cons_zero, List.set_cons_succ]
            refine held_take (v := ?_) 9 rfl (by kernel_rfl) (by kernel_rfl) (by kernel_rfl) (fun _ _ _ h => h) (by rfl) ?_ (by assumption) ?_
            rotate_left
            · (intro w hSw; (try dsimp only at hSw); go_simp; try with_reducible rfl)
            try simp only [Act.put, List.setIfInBounds_toArray, List.set_cons_zero, List.set_cons_succ]
            refine held_take (v := ?_) 10 rfl (by kernel_rfl) (by kernel_rfl) (by kernel_rfl) (fun _ _ _ h => h) (by rfl) ?_ (by assumption) ?_
            rotate_left
            · (intro w hSw; (try dsimp only at hSw); go_simp; try with_reducible rfl)
            try simp only [Act.put, List.setIfInBounds_toArray, List.set_cons_zero, List.set_cons_succ]
            refine held_take (v := ?_) 11 rfl (by kernel_rfl) (by kernel_rfl) (by kernel_rfl) (fun _ _ _ h => h) (by rfl) ?_ (by assumption) ?_
            rotate_left
            · (intro w hSw; (try dsimp only at hSw); go_simp; try with_reducible rfl)
            try simp only [Act.put, List.setIfInBounds_toArray, List.set_cons_zero, List.set_cons_succ]
            refine held_skip 12 rfl (by kernel_rfl) (by kernel_rfl) (by kernel_rfl) (fun _ _ _ h => h) (by rfl) (by assumption) ?_
            try simp only [Act.put, List.setIfInBounds_toArray, List.set_cons_zero, List.set_cons_succ]
            refine held_skip 13 rfl (by kernel_rfl) (by kernel_rfl) (by kernel_rfl) (fun _ _ _ h => h) (by rfl) (by assumption) ?_
            try simp only [Act.put, List.setIfInBounds_toArray, List.set_cons_zero, List.set_cons_succ]
            refine held_skip 14 rfl (by kernel_rfl) (by kernel_rfl) (by kernel_rfl) (fun _ _ _ h => h) (by rfl) (by assumption) ?_
            try simp only [Act.put, List.setIfInBounds_toArray, List.set_cons_zero, List.set_cons_succ]
            refine held_skip 15 rfl (by kernel_rfl) (by kernel_rfl) (by kernel_rfl) (fun _ _ _ h => h) (by rfl) (by assumption) ?_
            try simp only [Act.put, List.setIfInBounds_toArray, List.set_cons_zero, List.set_cons_succ]
            refine held_skip 16 rfl (by kernel_rfl) (by kernel_rfl) (by kernel_rfl) (fun _ _ _ h => h) (by rfl) (by assumption) ?_
            try simp only [Act.put, List.setIfInBounds_toArray, List.set_cons_zero, List.set_cons_succ]
            refine held_skip 17 rfl (by kernel_rfl) (by kernel_rfl) (by kernel_rfl) (fun _ _ _ h => h) (by rfl) (by assumption) ?_
            try simp only [Act.put, List.setIfInBounds_toArray, List.set_cons_zero, List.set_cons_succ]
            refine held_take (v := ?_) 18 rfl (by kernel_rfl) (by kernel_rfl) (by kernel_rfl) (fun _ _ _ h => h) (by rfl) ?_ (by assumption) ?_
            rotate_left
            · (intro w hSw; (try dsimp only at hSw); go_simp; try with_reducible rfl)
            try simp only [Act.put, List.setIfInBounds_toArray, List.set_cons_zero, List.set_cons_succ]
            refine wpAnyH_done (by kernel_rfl) ?_ _
            clear ho1
            go_wp2_with fail
            go_meet
            exact ⟨rfl, hb1.trans (hb2.mono (by omega))⟩
          · have hd5 : decide (x.exit < -1) = false := by simpa using h5
            by_cases h6 : (exits.length : Int) ≤ x.exit
            · have ht : b1 = true := by rw [← HB1.out]; simp [h6]
              have HBD := Lib.hid hbad; clear hbad
              subst ht
              refine wp_region_held_drew (S := (fun w' => w'.cell? ⟨w.heap.size, 0, none⟩ = some (.int .i64 fn) ∧ w'.cell? ⟨w.heap.size, 1, none⟩ = some (.int .i64 at_) ∧ w'.cell? ⟨w.heap.size, 2, none⟩ = some (.int .i64 loop) ∧ w'.cell? ⟨w.heap.size, 3, none⟩ = some (.slice (some ⟨b, o, none⟩) ins.length ic) ∧ w'.cell? ⟨w.heap.size, 4, none⟩ = some (.slice EA exits.length ec) ∧ w'.cell? ⟨w.heap.size, 5, none⟩ = some (.int .i64 turn.at_) ∧ w'.cell? ⟨w.heap.size, 6, none⟩ = some (.int .i64 turn.steps) ∧ w'.cell? ⟨w.heap.size, 7, none⟩ = some (.slice TS turn.sets.length tsc) ∧ w'.cell? ⟨w.heap.size, 8, none⟩ = some (.slice TM turn.makes.length tmc) ∧ w'.cell? ⟨w.heap.size, 9, none⟩ = some (.int .i64 back.at_) ∧ w'.cell? ⟨w.heap.size, 10, none⟩ = some (.int .i64 back.steps) ∧ w'.cell? ⟨w.heap.size, 11, none⟩ = some (.slice BS back.sets.length bsc) ∧ w'.cell? ⟨w.heap.size, 12, none⟩ = some (.slice BM back.makes.length bmc) ∧ w'.cell? ⟨wr.heap.size, 0, none⟩ = some (.int .i64 x.op) ∧ w'.cell? ⟨wr.heap.size, 1, none⟩ = some (.int .i64 x.a) ∧ w'.cell? ⟨wr.heap.size, 2, none⟩ = some (.int .i64 x.b) ∧ w'.cell? ⟨wr.heap.size, 3, none⟩ = some (.int .i64 x.c) ∧ w'.cell? ⟨wr.heap.size, 4, none⟩ = some (.int .i64 x.n) ∧ w'.cell? ⟨wr.heap.size, 5, none⟩ = some (.int .i64 x.exit) ∧ w'.cell? ⟨wr.heap.size, 6, none⟩ = some (.int .i64 x.k.1) ∧ w'.cell? ⟨wr.heap.size, 7, none⟩ = some (.int .i64 x.k.2))) (by kernel_rfl) ?_ (fun hHeld0 => ?_)
              · first | trivial | ((try dsimp only); ((obtain ⟨p0, p1, p2, p3, p4, p5, p6, p7, p8, p9, p10, p11, p12⟩ := (HV.out.1.drew).cells13; obtain ⟨q0, q1, q2, q3, q4, q5, q6, q7⟩ := (HV.out.2.drew).cells8; exact ⟨p0, p1, p2, p3, p4, p5, p6, p7, p8, p9, p10, p11, p12, q0, q1, q2, q3, q4, q5, q6, q7⟩)))
              refine held_take (v := ?_) 0 rfl (by kernel_rfl) (by kernel_rfl) (by kernel_rfl) (fun _ _ _ h => h) (by rfl) ?_ (by assumption) ?_
              rotate_left
              · (intro w hSw; (try dsimp only at hSw); go_simp; try with_reducible rfl)
              try simp only [Act.put, List.setIfInBounds_toArray, List.set_cons_zero, List.set_cons_succ]
              refine held_take (v := ?_) 1 rfl (by kernel_rfl) (by kernel_rfl) (by kernel_rfl) (fun _ _ _ h => h) (by rfl) ?_ (by assumption) ?_
              rotate_left
              · (intro w hSw; (try dsimp only at hSw); go_simp; try with_reducible rfl)
              try simp only [Act.put, List.setIfInBounds_toArray, List.set_cons_zero, List.set_cons_succ]
              refine held_take (v := ?_) 3 rfl (by kernel_rfl) (by kernel_rfl) (by kernel_rfl) (fun _ _ _ h => h) (by rfl) ?_ (by assumption) ?_
              rotate_left
              · (intro w hSw; (try dsimp only at hSw); go_simp; try with_reducible rfl)
              try simp only [Act.put, List.setIfInBounds_toArray, List.set_cons_zero, List.set_cons_succ]
              refine held_call 2 (by kernel_rfl) rfl (fun K hK => ?_)
              go_simp
              go_at_call 62; refine (rasks_at x NA _ HG.out.2.2.2.2 HG.out.2.2.2.1).mono ?_; rintro e w1 ⟨A1, d1, rfl, ho1, hb1d⟩; have hb1 : Below V.heap.size V w1 := undrew hb1d; clear hb1d; have hs1 := hb1.size
              try (go_wp2_with fail)
              refine hK.out _ _ ?_ (fun hHeld1 => ?_)
              · first | trivial | ((try dsimp only); ((obtain ⟨p0, p1, p2, p3, p4, p5, p6, p7, p8, p9, p10, p11, p12⟩ := (HV.out.1.fresh hb1).cells13; obtain ⟨q0, q1, q2, q3, q4, q5, q6, q7⟩ := (HV.out.2.fresh hb1).cells8; exact ⟨p0, p1, p2, p3, p4, p5, p6, p7, p8, p9, p10, p11, p12, q0, q1, q2, q3, q4, q5, q6, q7⟩)))
              clear hK K hHeld0
              try simp only [Act.put, List.setIfInBounds_toArray, List.set_cons_zero, List.set_cons_succ]
              refine held_call 4 (by kernel_rfl) rfl (fun K hK => ?_)
              go_simp
              go_at_call 61; refine (rmay_any B w1.heap.size ic d1 NA _ A1 ins (Liv.asks x) k _ _ _ _ _ _ _ _ _ _ _ _ w1 (H.out.1.i.below ((hbw2.trans (hb1.mono (by omega))).mono hB)) (by omega) hil (by omega) HG.out.2.2.2.2 ho1 (Nat.le_refl _) (by omega)).mono ?_; rintro e w2 ⟨he, hb2⟩; obtain rfl : e = .returned (.bool true) := (by (rw [he, HBD.out]; rfl)); clear he
              try (go_wp2_with fail)
              refine hK.out _ _ ?_ (fun hHeld2 => ?_)
              · first | trivial | ((try dsimp only); ((obtain ⟨p0, p1, p2, p3, p4, p5, p6, p7, p8, p9, p10, p11, p12⟩ := ((HV.out.1.fresh hb1).fresh hb2).cells13; obtain ⟨q0, q1, q2, q3, q4, q5, q6, q7⟩ := ((HV.out.2.fresh hb1).fresh hb2).cells8; exact ⟨p0, p1, p2, p3, p4, p5, p6, p7, p8, p9, p10, p11, p12, q0, q1, q2, q3, q4, q5, q6, q7⟩)))
              clear hK K hHeld1
              try simp only [Act.put, List.setIfInBounds_toArray, List.set_cons_zero, List.set_cons_succ]
              refine held_take (v := ?_) 5 rfl (by kernel_rfl) (by kernel_rfl) (by kernel_rfl) (fun _ _ _ h => h) (by rfl) ?_ (by assumption) ?_
              rotate_left
              · (intro w hSw; (try dsimp only at hSw); go_simp; try with_reducible rfl)
              try simp only [Act.put, List.setIfInBounds_toArray, List.set_cons_zero, List.set_cons_succ]
              refine held_take (v := ?_) 6 rfl (by kernel_rfl) (by kernel_rfl) (by kernel_rfl) (fun _ _ _ h => h) (by rfl) ?_ (by assumption) ?_
              rotate_left
              · (intro w hSw; (try dsimp only at hSw); go_simp; try with_reducible rfl)
              try simp only [Act.put, List.setIfInBounds_toArray, List.set_cons_zero, List.set_cons_succ]
              refine held_take (v := ?_) 7 rfl (by kernel_rfl) (by kernel_rfl) (by kernel_rfl) (fun _ _ _ h => h) (by rfl) ?_ (by assumption) ?_
              rotate_left
              · (intro w hSw; (try dsimp only at hSw); go_simp; try with_reducible rfl)
              try simp only [Act.put, List.setIfInBounds_toArray, List.set_cons_zero, List.set_cons_succ]
              refine held_take (v := ?_) 8 rfl (by kernel_rfl) (by kernel_rfl) (by kernel_rfl) (fun _ _ _ h => h) (by rfl) ?_ (by assumption) ?_
              rotate_left
              · (intro w hSw; (try dsimp only at hSw); go_simp; try with_reducible rfl)
              try simp only [Act.put, List.setIfInBounds_toArray, List.set_cons_zero, List.set_cons_succ]
              refine held_take (v := ?_) 9 rfl (by kernel_rfl) (by kernel_rfl) (by kernel_rfl) (fun _ _ _ h => h) (by rfl) ?_ (by assumption) ?_
              rotate_left
              · (intro w hSw; (try dsimp only at hSw); go_simp; try with_reducible rfl)
              try simp only [Act.put, List.setIfInBounds_toArray, List.set_cons_zero, List.set_cons_succ]
              refine held_take (v := ?_) 10 rfl (by kernel_rfl) (by kernel_rfl) (by kernel_rfl) (fun _ _ _ h => h) (by rfl) ?_ (by assumption) ?_
              rotate_left
              · (intro w hSw; (try dsimp only at hSw); go_simp; try with_reducible rfl)
              try simp only [Act.put, List.setIfInBounds_toArray, List.set_cons_zero, List.set_cons_succ]
              refine held_take (v := ?_) 11 rfl (by kernel_rfl) (by kernel_rfl) (by kernel_rfl) (fun _ _ _ h => h) (by rfl) ?_ (by assumption) ?_
              rotate_left
              · (intro w hSw; (try dsimp only at hSw); go_simp; try with_reducible rfl)
              try simp only [Act.put, List.setIfInBounds_toArray, List.set_cons_zero, List.set_cons_succ]
              refine held_take (v := ?_) 12 rfl (by kernel_rfl) (by kernel_rfl) (by kernel_rfl) (fun _ _ _ h => h) (by rfl) ?_ (by assumption) ?_
              rotate_left
              · (intro w hSw; (try dsimp only at hSw); go_simp; try with_reducible rfl)
              try simp only [Act.put, List.setIfInBounds_toArray, List.set_cons_zero, List.set_cons_succ]
              refine held_take (v := ?_) 13 rfl (by kernel_rfl) (by kernel_rfl) (by kernel_rfl) (fun _ _ _ h => h) (by rfl) ?_ (by assumption) ?_
              rotate_left
              · (intro w hSw; (try dsimp only at hSw); go_simp; try with_reducible rfl)
              try simp only [Act.put, List.setIfInBounds_toArray, List.set_cons_zero, List.set_cons_succ]
              refine held_take (v := ?_) 14 rfl (by kernel_rfl) (by kernel_rfl) (by kernel_rfl) (fun _ _ _ h => h) (by rfl) ?_ (by assumption) ?_
              rotate_left
              · (intro w hSw; (try dsimp only at hSw); go_simp; try with_reducible rfl)
              try simp only [Act.put, List.setIfInBounds_toArray, List.set_cons_zero, List.set_cons_succ]
              refine held_take (v := ?_) 15 rfl (by kernel_rfl) (by kernel_rfl) (by kernel_rfl) (fun _ _ _ h => h) (by rfl) ?_ (by assumption) ?_
              rotate_left
              · (intro w hSw; (try dsimp only at hSw); go_simp; try with_reducible rfl)
              try simp only [Act.put, List.setIfInBounds_toArray, List.set_cons_zero, List.set_cons_succ]
              refine held_take (v := ?_) 16 rfl (by kernel_rfl) (by kernel_rfl) (by kernel_rfl) (fun _ _ _ h => h) (by rfl) ?_ (by assumption) ?_
              rotate_left
              · (intro w hSw; (try dsimp only at hSw); go_simp; try with_reducible rfl)
              try simp only [Act.put, List.setIfInBounds_toArray, List.set_cons_zero, List.set_cons_succ]
              refine held_take (v := ?_) 17 rfl (by kernel_rfl) (by kernel_rfl) (by kernel_rfl) (fun _ _ _ h => h) (by rfl) ?_ (by assumption) ?_
              rotate_left
              · (intro w hSw; (try dsimp only at hSw); go_simp; try with_reducible rfl)
              try simp only [Act.put, List.setIfInBounds_toArray, List.set_cons_zero, List.set_cons_succ]
              refine held_take (v := ?_) 18 rfl (by kernel_rfl) (by kernel_rfl) (by kernel_rfl) (fun _ _ _ h => h) (by rfl) ?_ (by assumption) ?_
              rotate_left
              · (intro w hSw; (try dsimp only at hSw); go_simp; try with_reducible rfl)
              try simp only [Act.put, List.setIfInBounds_toArray, List.set_cons_zero, List.set_cons_succ]
              refine wpAnyH_done (by kernel_rfl) ?_ _
              clear ho1
              go_wp2_with fail
              go_meet
              exact ⟨rfl, hb1.trans (hb2.mono (by omega))⟩
            · have hd6 : decide ((exits.length : Int) ≤ x.exit) = false := by simpa using h6
              have ht : b1 = false := by rw [← HB1.out, hbad, hd5, hd6]; rfl
              have HBD := Lib.hid hbad; clear hbad
              subst ht
              refine wp_region_held_drew (S := (fun w' => w'.cell? ⟨w.heap.size, 0, none⟩ = some (.int .i64 fn) ∧ w'.cell? ⟨w.heap.size, 1, none⟩ = some (.int .i64 at_) ∧ w'.cell? ⟨w.heap.size, 2, none⟩ = some (.int .i64 loop) ∧ w'.cell? ⟨w.heap.size, 3, none⟩ = some (.slice (some ⟨b, o, none⟩) ins.length ic) ∧ w'.cell? ⟨w.heap.size, 4, none⟩ = some (.slice EA exits.length ec) ∧ w'.cell? ⟨w.heap.size, 5, none⟩ = some (.int .i64 turn.at_) ∧ w'.cell? ⟨w.heap.size, 6, none⟩ = some (.int .i64 turn.steps) ∧ w'.cell? ⟨w.heap.size, 7, none⟩ = some (.slice TS turn.sets.length tsc) ∧ w'.cell? ⟨w.heap.size, 8, none⟩ = some (.slice TM turn.makes.length tmc) ∧ w'.cell? ⟨w.heap.size, 9, none⟩ = some (.int .i64 back.at_) ∧ w'.cell? ⟨w.heap.size, 10, none⟩ = some (.int .i64 back.steps) ∧ w'.cell? ⟨w.heap.size, 11, none⟩ = some (.slice BS back.sets.length bsc) ∧ w'.cell? ⟨w.heap.size, 12, none⟩ = some (.slice BM back.makes.length bmc) ∧ w'.cell? ⟨wr.heap.size, 0, none⟩ = some (.int .i64 x.op) ∧ w'.cell? ⟨wr.heap.size, 1, none⟩ = some (.int .i64 x.a) ∧ w'.cell? ⟨wr.heap.size, 2, none⟩ = some (.int .i64 x.b) ∧ w'.cell? ⟨wr.heap.size, 3, none⟩ = some (.int .i64 x.c) ∧ w'.cell? ⟨wr.heap.size, 4, none⟩ = some (.int .i64 x.n) ∧ w'.cell? ⟨wr.heap.size, 5, none⟩ = some (.int .i64 x.exit) ∧ w'.cell? ⟨wr.heap.size, 6, none⟩ = some (.int .i64 x.k.1) ∧ w'.cell? ⟨wr.heap.size, 7, none⟩ = some (.int .i64 x.k.2))) (by kernel_rfl) ?_ (fun hHeld0 => ?_)
              · first | trivial | ((try dsimp only); ((obtain ⟨p0, p1, p2, p3, p4, p5, p6, p7, p8, p9, p10, p11, p12⟩ := (HV.out.1.drew).cells13; obtain ⟨q0, q1, q2, q3, q4, q5, q6, q7⟩ := (HV.out.2.drew).cells8; exact ⟨p0, p1, p2, p3, p4, p5, p6, p7, p8, p9, p10, p11, p12, q0, q1, q2, q3, q4, q5, q6, q7⟩)))
              refine held_take (v := ?_) 0 rfl (by kernel_rfl) (by kernel_rfl) (by kernel_rfl) (fun _ _ _ h => h) (by rfl) ?_ (by assumption) ?_
              rotate_left
              · (intro w hSw; (try dsimp only at hSw); go_simp; try with_reducible rfl)
              try simp only [Act.put, List.setIfInBounds_toArray, List.set_cons_zero, List.set_cons_succ]
              refine held_take (v := ?_) 1 rfl (by kernel_rfl) (by kernel_rfl) (by kernel_rfl) (fun _ _ _ h => h) (by rfl) ?_ (by assumption) ?_
              rotate_left
              · (intro w hSw; (try dsimp only at hSw); go_simp; try with_reducible rfl)
              try simp only [Act.put, List.setIfInBounds_toArray, List.set_cons_zero, List.set_cons_succ]
              refine held_take (v := ?_) 3 rfl (by kernel_rfl) (by kernel_rfl) (by kernel_rfl) (fun _ _ _ h => h) (by rfl) ?_ (by assumption) ?_
              rotate_left
              · (intro w hSw; (try dsimp only at hSw); go_simp; try with_reducible rfl)
              try simp only [Act.put, List.setIfInBounds_toArray, List.set_cons_zero, List.set_cons_succ]
              refine held_call 2 (by kernel_rfl) rfl (fun K hK => ?_)
              go_simp
              go_at_call 62; refine (rasks_at x NA _ HG.out.2.2.2.2 HG.out.2.2.2.1).mono ?_; rintro e w1 ⟨A1, d1, rfl, ho1, hb1d⟩; have hb1 : Below V.heap.size V w1 := undrew hb1d; clear hb1d; have hs1 := hb1.size
              try (go_wp2_with fail)
              refine hK.out _ _ ?_ (fun hHeld1 => ?_)
              · first | trivial | ((try dsimp only); ((obtain ⟨p0, p1, p2, p3, p4, p5, p6, p7, p8, p9, p10, p11, p12⟩ := (HV.out.1.fresh hb1).cells13; obtain ⟨q0, q1, q2, q3, q4, q5, q6, q7⟩ := (HV.out.2.fresh hb1).cells8; exact ⟨p0, p1, p2, p3, p4, p5, p6, p7, p8, p9, p10, p11, p12, q0, q1, q2, q3, q4, q5, q6, q7⟩)))
              clear hK K hHeld0
              try simp only [Act.put, List.setIfInBounds_toArray, List.set_cons_zero, List.set_cons_succ]
              refine held_call 4 (by kernel_rfl) rfl (fun K hK => ?_)
              go_simp
              go_at_call 61; refine (rmay_any B w1.heap.size ic d1 NA _ A1 ins (Liv.asks x) k _ _ _ _ _ _ _ _ _ _ _ _ w1 (H.out.1.i.below ((hbw2.trans (hb1.mono (by omega))).mono hB)) (by omega) hil (by omega) HG.out.2.2.2.2 ho1 (Nat.le_refl _) (by omega)).mono ?_; rintro e w2 ⟨he, hb2⟩; obtain rfl : e = .returned (.bool true) := (by (rw [he, HBD.out]; rfl)); clear he
              try (go_wp2_with fail)
              refine hK.out _ _ ?_ (fun hHeld2 => ?_)
              · first | trivial | ((try dsimp only); ((obtain ⟨p0, p1, p2, p3, p4, p5, p6, p7, p8, p9, p10, p11, p12⟩ := ((HV.out.1.fresh hb1).fresh hb2).cells13; obtain ⟨q0, q1, q2, q3, q4, q5, q6, q7⟩ := ((HV.out.2.fresh hb1).fresh hb2).cells8; exact ⟨p0, p1, p2, p3, p4, p5, p6, p7, p8, p9, p10, p11, p12, q0, q1, q2, q3, q4, q5, q6, q7⟩)))
              clear hK K hHeld1
              try simp only [Act.put, List.setIfInBounds_toArray, List.set_cons_zero, List.set_cons_succ]
              refine held_take (v := ?_) 5 rfl (by kernel_rfl) (by kernel_rfl) (by kernel_rfl) (fun _ _ _ h => h) (by rfl) ?_ (by assumption) ?_
              rotate_left
              · (intro w hSw; (try dsimp only at hSw); go_simp; try with_reducible rfl)
              try simp only [Act.put, List.setIfInBounds_toArray, List.set_cons_zero, List.set_cons_succ]
              refine held_take (v := ?_) 6 rfl (by kernel_rfl) (by kernel_rfl) (by kernel_rfl) (fun _ _ _ h => h) (by rfl) ?_ (by assumption) ?_
              rotate_left
              · (intro w hSw; (try dsimp only at hSw); go_simp; try with_reducible rfl)
              try simp only [Act.put, List.setIfInBounds_toArray, List.set_cons_zero, List.set_cons_succ]
              refine held_take (v := ?_) 7 rfl (by kernel_rfl) (by kernel_rfl) (by kernel_rfl) (fun _ _ _ h => h) (by rfl) ?_ (by assumption) ?_
              rotate_left
              · (intro w hSw; (try dsimp only at hSw); go_simp; try with_reducible rfl)
              try simp only [Act.put, List.setIfInBounds_toArray, List.set_cons_zero, List.set_cons_succ]
              refine held_take (v := ?_) 8 rfl (by kernel_rfl) (by kernel_rfl) (by kernel_rfl) (fun _ _ _ h => h) (by rfl) ?_ (by assumption) ?_
              rotate_left
              · (intro w hSw; (try dsimp only at hSw); go_simp; try with_reducible rfl)
              try simp only [Act.put, List.setIfInBounds_toArray, List.set_cons_zero, List.set_cons_succ]
              refine held_take (v := ?_) 9 rfl (by kernel_rfl) (by kernel_rfl) (by kernel_rfl) (fun _ _ _ h => h) (by rfl) ?_ (by assumption) ?_
              rotate_left
              · (intro w hSw; (try dsimp only at hSw); go_simp; try with_reducible rfl)
              try simp only [Act.put, List.setIfInBounds_toArray, List.set_cons_zero, List.set_cons_succ]
              refine held_take (v := ?_) 10 rfl (by kernel_rfl) (by kernel_rfl) (by kernel_rfl) (fun _ _ _ h => h) (by rfl) ?_ (by assumption) ?_
              rotate_left
              · (intro w hSw; (try dsimp only at hSw); go_simp; try with_reducible rfl)
              try simp only [Act.put, List.setIfInBounds_toArray, List.set_cons_zero, List.set_cons_succ]
              refine held_take (v := ?_) 11 rfl (by kernel_rfl) (by kernel_rfl) (by kernel_rfl) (fun _ _ _ h => h) (by rfl) ?_ (by assumption) ?_
              rotate_left
              · (intro w hSw; (try dsimp only at hSw); go_simp; try with_reducible rfl)
              try simp only [Act.put, List.setIfInBounds_toArray, List.set_cons_zero, List.set_cons_succ]
              refine held_take (v := ?_) 12 rfl (by kernel_rfl) (by kernel_rfl) (by kernel_rfl) (fun _ _ _ h => h) (by rfl) ?_ (by assumption) ?_
              rotate_left
              · (intro w hSw; (try dsimp only at hSw); go_simp; try with_reducible rfl)
              try simp only [Act.put, List.setIfInBounds_toArray, List.set_cons_zero, List.set_cons_succ]
              refine held_take (v := ?_) 13 rfl (by kernel_rfl) (by kernel_rfl) (by kernel_rfl) (fun _ _ _ h => h) (by rfl) ?_ (by assumption) ?_
              rotate_left
              · (intro w hSw; (try dsimp only at hSw); go_simp; try with_reducible rfl)
              try simp only [Act.put, List.setIfInBounds_toArray, List.set_cons_zero, List.set_cons_succ]
              refine held_take (v := ?_) 14 rfl (by kernel_rfl) (by kernel_rfl) (by kernel_rfl) (fun _ _ _ h => h) (by rfl) ?_ (by assumption) ?_
              rotate_left
              · (intro w hSw; (try dsimp only at hSw); go_simp; try with_reducible rfl)
              try simp only [Act.put, List.setIfInBounds_toArray, List.set_cons_zero, List.set_cons_succ]
              refine held_take (v := ?_) 15 rfl (by kernel_rfl) (by kernel_rfl) (by kernel_rfl) (fun _ _ _ h => h) (by rfl) ?_ (by assumption) ?_
              rotate_left
              · (intro w hSw; (try dsimp only at hSw); go_simp; try with_reducible rfl)
              try simp only [Act.put, List.setIfInBounds_toArray, List.set_cons_zero, List.set_cons_succ]
              refine held_take (v := ?_) 16 rfl (by kernel_rfl) (by kernel_rfl) (by kernel_rfl) (fun _ _ _ h => h) (by rfl) ?_ (by assumption) ?_
              rotate_left
              · (intro w hSw; (try dsimp only at hSw); go_simp; try with_reducible rfl)
              try simp only [Act.put, List.setIfInBounds_toArray, List.set_cons_zero, List.set_cons_succ]
              refine held_take (v := ?_) 17 rfl (by kernel_rfl) (by kernel_rfl) (by kernel_rfl) (fun _ _ _ h => h) (by rfl) ?_ (by assumption) ?_
              rotate_left
              · (intro w hSw; (try dsimp only at hSw); go_simp; try with_reducible rfl)
              try simp only [Act.put, List.setIfInBounds_toArray, List.set_cons_zero, List.set_cons_succ]
              refine held_take (v := ?_) 18 rfl (by kernel_rfl) (by kernel_rfl) (by kernel_rfl) (fun _ _ _ h => h) (by rfl) ?_ (by assumption) ?_
              rotate_left
              · (intro w hSw; (try dsimp only at hSw); go_simp; try with_reducible rfl)
              try simp only [Act.put, List.setIfInBounds_toArray, List.set_cons_zero, List.set_cons_succ]
              refine wpAnyH_done (by kernel_rfl) ?_ _
              clear ho1
              go_wp2_with fail
              go_meet
              exact ⟨rfl, hb1.trans (hb2.mono (by omega))⟩
      case rest =>
        obtain ⟨rfl, hbc⟩ := hcut
        rename World => wc
        have hsc := hbc.size
        have hbwc : Below w.heap.size w wc := hbw2.trans (hbc.mono (by omega))
        cases b1 with
        | true =>
          have h7 : r = 3 := by rw [HR.out, if_pos HB1.out]
          have hq7 : q = 3 := by rw [HG.out.1 (by omega), h7]
          subst hq7
          go_wp2_with fail
          go_ret
          exact ⟨rfl, hbwc⟩
        | false =>
          have hr3 : r = if (Liv.exitVals exits x.exit).any (Liv.bad ins k) = true then 3 else 0 := by rw [HR.out, if_neg (by rw [HB1.out]; decide)]
          have hran : -1 ≤ x.exit ∧ x.exit < exits.length := by
            have h9 := HB1.out; simp only [Bool.or_eq_false_iff, decide_eq_false_iff_not] at h9; omega
          obtain ⟨hr5, hr6⟩ := hran
          have HC := Lib.hid (And.intro (HV.out.1.fresh hbc) (HV.out.2.fresh hbc)); clear HV HB1 HR
          have HR := Lib.hid hr3; clear hr3
          have x5 := HC.out.2.cell 5 (v := .int .i64 x.exit) rfl
          have ltc : w.heap.size < wc.heap.size := by omega
          have ltc2 : wr.heap.size < wc.heap.size := by omega
          obtain ⟨b2, hb2d⟩ : ∃ b2, (Liv.exitVals exits x.exit).any (Liv.bad ins k) = b2 := ⟨_, rfl⟩
          have HB2 := Lib.hid hb2d; clear hb2d
          go_wp2_with fail
          go_cut [80] (fun ov W2 => ov = .bool b2 ∧ Below wc.heap.size wc W2)
          case first =>
            by_cases h3 : 0 ≤ x.exit
            · obtain ⟨y, hy⟩ : ∃ y : Nat, x.exit = (y : Int) := ⟨x.exit.toNat, by omega⟩
              have hyl : y < exits.length := by omega
              obtain ⟨be, oe, ex, As, cs, Am, cm, rfl, hbE, hex, e0, e1, e2, e3, as_, -, am_, -, -⟩ := (H.out.1.e.below (hbwc.mono hB)).ex_ hyl
              obtain ⟨N, hN⟩ : ∃ N, (Liv.vals ex).length = N := ⟨_, rfl⟩
              have hvb := H.out.2.1 ex (List.mem_of_getElem? hex)
              rw [hN] at hvb
              have hok := Liv.vals_ok as_ am_
              have hev : Liv.exitVals exits x.exit = Liv.vals ex := by unfold Liv.exitVals; rw [if_neg (by omega), hy, Int.toNat_natCast, hex]; rfl
              have hb2e := HB2.out
              rw [hev] at hb2e
              have HE := Lib.hid (And.intro as_ (And.intro am_ (And.intro hok (And.intro hN (And.intro hvb hb2e))))); clear as_ am_ hN hvb hok hex hev hb2e
              have HY := Lib.hid hy
              have hbe : be < wc.heap.size := by omega
              have hy0 : (0 : Int) ≤ (y : Int) := by omega
              have hy1 : (y : Int) < (exits.length : Int) := by omega
              rw [hy] at x5
              clear hy h3 hr5 hr6
              cases b2 with
              | true =>
                refine wp_region_held_drew (S := (fun w' => w'.cell? ⟨w.heap.size, 0, none⟩ = some (.int .i64 fn) ∧ w'.cell? ⟨w.heap.size, 1, none⟩ = some (.int .i64 at_) ∧ w'.cell? ⟨w.heap.size, 2, none⟩ = some (.int .i64 loop) ∧ w'.cell? ⟨w.heap.size, 3, none⟩ = some (.slice (some ⟨b, o, none⟩) ins.length ic) ∧ w'.cell? ⟨w.heap.size, 4, none⟩ = some (.slice (some ⟨be, oe, none⟩) exits.length ec) ∧ w'.cell? ⟨w.heap.size, 5, none⟩ = some (.int .i64 turn.at_) ∧ w'.cell? ⟨w.heap.size, 6, none⟩ = some (.int .i64 turn.steps) ∧ w'.cell? ⟨w.heap.size, 7, none⟩ = some (.slice TS turn.sets.length tsc) ∧ w'.cell? ⟨w.heap.size, 8, none⟩ = some (.slice TM turn.makes.length tmc) ∧ w'.cell? ⟨w.heap.size, 9, none⟩ = some (.int .i64 back.at_) ∧ w'.cell? ⟨w.heap.size, 10, none⟩ = some (.int .i64 back.steps) ∧ w'.cell? ⟨w.heap.size, 11, none⟩ = some (.slice BS back.sets.length bsc) ∧ w'.cell? ⟨w.heap.size, 12, none⟩ = some (.slice BM back.makes.length bmc) ∧ w'.cell? ⟨wr.heap.size, 5, none⟩ = some (.int .i64 (y : Int)) ∧ w'.cell? ⟨be, oe + y * 4, none⟩ = some (.int .i64 ex.at_) ∧ w'.cell? ⟨be, oe + y * 4 + 1, none⟩ = some (.int .i64 ex.steps) ∧ w'.cell? ⟨be, oe + y * 4 + 2, none⟩ = some (.slice As ex.sets.length cs) ∧ w'.cell? ⟨be, oe + y * 4 + 3, none⟩ = some (.slice Am ex.makes.length cm))) (by kernel_rfl) ?_ (fun hHeld0 => ?_)
                · first | trivial | ((try dsimp only); ((obtain ⟨p0, p1, p2, p3, p4, p5, p6, p7, p8, p9, p10, p11, p12⟩ := (HC.out.1.drew).cells13; exact ⟨p0, p1, p2, p3, p4, p5, p6, p7, p8, p9, p10, p11, p12, (HC.out.2.drew).cell 5 (by rw [HY.out]; rfl), e0, e1, e2, e3⟩)))
                refine held_take (v := ?_) 0 rfl (by kernel_rfl) (by kernel_rfl) (by kernel_rfl) (fun _ _ _ h => h) (by rfl) ?_ (by assumption) ?_
                rotate_left
                · (intro w hSw; (try dsimp only at hSw); go_simp; try with_reducible rfl)
                try simp only [Act.put, List.setIfInBounds_toArray, List.set_cons_zero, List.set_cons_succ]
                refine held_take (v := ?_) 1 rfl (by kernel_rfl) (by kernel_rfl) (by kernel_rfl) (fun _ _ _ h => h) (by rfl) ?_ (by assumption) ?_
                rotate_left
                · (intro w hSw; (try dsimp only at hSw); go_simp; try with_reducible rfl)
                try simp only [Act.put, List.setIfInBounds_toArray, List.set_cons_zero, List.set_cons_succ]
                refine held_take (v := ?_) 2 rfl (by kernel_rfl) (by kernel_rfl) (by kernel_rfl) (fun _ _ _ h => h) (by rfl) ?_ (by assumption) ?_
                rotate_left
                · (intro w hSw; (try dsimp only at hSw); go_simp; try with_reducible rfl)
                try simp only [Act.put, List.setIfInBounds_toArray, List.set_cons_zero, List.set_cons_succ]
                refine held_take (v := ?_) 3 rfl (by kernel_rfl) (by kernel_rfl) (by kernel_rfl) (fun _ _ _ h => h) (by rfl) ?_ (by assumption) ?_
                rotate_left
                · (intro w hSw; (try dsimp only at hSw); go_simp; try with_reducible rfl)
                try simp only [Act.put, List.setIfInBounds_toArray, List.set_cons_zero, List.set_cons_succ]
                refine held_take (v := ?_) 4 rfl (by kernel_rfl) (by kernel_rfl) (by kernel_rfl) (fun _ _ _ h => h) (by rfl) ?_ (by assumption) ?_
                rotate_left
                · (intro w hSw; (try dsimp only at hSw); go_simp; try with_reducible rfl)
                try simp only [Act.put, List.setIfInBounds_toArray, List.set_cons_zero, List.set_cons_succ]
                refine held_take (v := ?_) 5 rfl (by kernel_rfl) (by kernel_rfl) (by kernel_rfl) (fun _ _ _ h => h) (by rfl) ?_ (by assumption) ?_
                rotate_left
                · (intro w hSw; (try dsimp only at hSw); go_simp; try with_reducible rfl)
                try simp only [Act.put, List.setIfInBounds_toArray, List.set_cons_zero, List.set_cons_succ]
                refine held_take (v := ?_) 6 rfl (by kernel_rfl) (by kernel_rfl) (by kernel_rfl) (fun _ _ _ h => h) (by rfl) ?_ (by assumption) ?_
                rotate_left
                · (intro w hSw; (try dsimp only at hSw); go_simp; try with_reducible rfl)
                try simp only [Act.put, List.setIfInBounds_toArray, List.set_cons_zero, List.set_cons_succ]
                refine held_take (v := ?_) 7 rfl (by kernel_rfl) (by kernel_rfl) (by kernel_rfl) (fun _ _ _ h => h) (by rfl) ?_ (by assumption) ?_
                rotate_left
                · (intro w hSw; (try dsimp only at hSw); go_simp; try with_reducible rfl)
                try simp only [Act.put, List.setIfInBounds_toArray, List.set_cons_zero, List.set_cons_succ]
                refine held_take (v := ?_) 8 rfl (by kernel_rfl) (by kernel_rfl) (by kernel_rfl) (fun _ _ _ h => h) (by rfl) ?_ (by assumption) ?_
                rotate_left
                · (intro w hSw; (try dsimp only at hSw); go_simp; try with_reducible rfl)
                try simp only [Act.put, List.setIfInBounds_toArray, List.set_cons_zero, List.set_cons_succ]
                refine held_take (v := ?_) 9 rfl (by kernel_rfl) (by kernel_rfl) (by kernel_rfl) (fun _ _ _ h => h) (by rfl) ?_ (by assumption) ?_
                rotate_left
                · (intro w hSw; (try dsimp only at hSw); go_simp; try with_reducible rfl)
                try simp only [Act.put, List.setIfInBounds_toArray, List.set_cons_zero, List.set_cons_succ]
                refine held_take (v := ?_) 10 rfl (by kernel_rfl) (by kernel_rfl) (by kernel_rfl) (fun _ _ _ h => h) (by rfl) ?_ (by assumption) ?_
                rotate_left
                · (intro w hSw; (try dsimp only at hSw); go_simp; try with_reducible rfl)
                try simp only [Act.put, List.setIfInBounds_toArray, List.set_cons_zero, List.set_cons_succ]
                refine held_take (v := ?_) 12 rfl (by kernel_rfl) (by kernel_rfl) (by kernel_rfl) (fun _ _ _ h => h) (by rfl) ?_ (by assumption) ?_
                rotate_left
                · (intro w hSw; (try dsimp only at hSw); go_simp; try with_reducible rfl)
                try simp only [Act.put, List.setIfInBounds_toArray, List.set_cons_zero, List.set_cons_succ]
                refine held_call 11 (by kernel_rfl) rfl (fun K hK => ?_)
                go_simp
                go_at_call 63; refine (rvalues_any B cs cm N As Am ex _ (HE.out.1.drew) (HE.out.2.1.drew) (by show B ≤ wc.heap.size; omega) HE.out.2.2.2.1 HE.out.2.2.2.2.1).mono ?_; rintro e w1 ⟨A1, d1, rfl, ho1, hb1d⟩; have hb1 : Below wc.heap.size wc w1 := undrew hb1d; clear hb1d; have hs1 := hb1.size
                try (go_wp2_with fail)
                refine hK.out _ _ ?_ (fun hHeld1 => ?_)
                · first | trivial | ((try dsimp only); ((obtain ⟨p0, p1, p2, p3, p4, p5, p6, p7, p8, p9, p10, p11, p12⟩ := (HC.out.1.fresh hb1).cells13; exact ⟨p0, p1, p2, p3, p4, p5, p6, p7, p8, p9, p10, p11, p12, (HC.out.2.fresh hb1).cell 5 (by rw [HY.out]; rfl), (hb1.cell (p := ⟨be, oe + y * 4, none⟩) hbe).trans e0, (hb1.cell (p := ⟨be, oe + y * 4 + 1, none⟩) hbe).trans e1, (hb1.cell (p := ⟨be, oe + y * 4 + 2, none⟩) hbe).trans e2, (hb1.cell (p := ⟨be, oe + y * 4 + 3, none⟩) hbe).trans e3⟩)))
                clear hK K hHeld0
                try simp only [Act.put, List.setIfInBounds_toArray, List.set_cons_zero, List.set_cons_succ]
                refine held_call 13 (by kernel_rfl) rfl (fun K hK => ?_)
                go_simp
                go_at_call 61; refine (rmay_any B w1.heap.size ic d1 N _ A1 ins (Liv.vals ex) k _ _ _ _ _ _ _ _ _ _ _ _ w1 (H.out.1.i.below ((hbwc.trans (hb1.mono (by omega))).mono hB)) (by omega) hil (by omega) HE.out.2.2.2.1 (ho1.at_ HE.out.2.2.1) (Nat.le_refl _) (by have := HE.out.2.2.2.2.1; omega)).mono ?_; rintro e w2 ⟨he, hb2⟩; obtain rfl : e = .returned (.bool false) := (by (rw [he, HE.out.2.2.2.2.2]; rfl)); clear he
                try (go_wp2_with fail)
                refine hK.out _ _ ?_ (fun hHeld2 => ?_)
                · first | trivial | ((try dsimp only); ((obtain ⟨p0, p1, p2, p3, p4, p5, p6, p7, p8, p9, p10, p11, p12⟩ := ((HC.out.1.fresh hb1).fresh hb2).cells13; exact ⟨p0, p1, p2, p3, p4, p5, p6, p7, p8, p9, p10, p11, p12, ((HC.out.2.fresh hb1).fresh hb2).cell 5 (by rw [HY.out]; rfl), (hb2.cell (p := ⟨be, oe + y * 4, none⟩) (show be < w1.heap.size by omega)).trans ((hb1.cell (p := ⟨be, oe + y * 4, none⟩) hbe).trans e0), (hb2.cell (p := ⟨be, oe + y * 4 + 1, none⟩) (show be < w1.heap.size by omega)).trans ((hb1.cell (p := ⟨be, oe + y * 4 + 1, none⟩) hbe).trans e1), (hb2.cell (p := ⟨be, oe + y * 4 + 2, none⟩) (show be < w1.heap.size by omega)).trans ((hb1.cell (p := ⟨be, oe + y * 4 + 2, none⟩) hbe).trans e2), (hb2.cell (p := ⟨be, oe + y * 4 + 3, none⟩) (show be < w1.heap.size by omega)).trans ((hb1.cell (p := ⟨be, oe + y * 4 + 3, none⟩) hbe).trans e3)⟩)))
                clear hK K hHeld1
                try simp only [Act.put, List.setIfInBounds_toArray, List.set_cons_zero, List.set_cons_succ]
                refine held_take (v := ?_) 14 rfl (by kernel_rfl) (by kernel_rfl) (by kernel_rfl) (fun _ _ _ h => h) (by rfl) ?_ (by assumption) ?_
                rotate_left
                · (intro w hSw; (try dsimp only at hSw); go_simp; try with_reducible rfl)
                try simp only [Act.put, List.setIfInBounds_toArray, List.set_cons_zero, List.set_cons_succ]
                refine held_take (v := ?_) 15 rfl (by kernel_rfl) (by kernel_rfl) (by kernel_rfl) (fun _ _ _ h => h) (by rfl) ?_ (by assumption) ?_
                rotate_left
                · (intro w hSw; (try dsimp only at hSw); go_simp; try with_reducible rfl)
                try simp only [Act.put, List.setIfInBounds_toArray, List.set_cons_zero, List.set_cons_succ]
                refine wpAnyH_done (by kernel_rfl) ?_ _
                clear ho1
                go_wp2_with fail
                go_meet
                exact ⟨rfl, hb1.trans (hb2.mono (by omega))⟩
              | false =>
                refine wp_region_held_drew (S := (fun w' => w'.cell? ⟨w.heap.size, 0, none⟩ = some (.int .i64 fn) ∧ w'.cell? ⟨w.heap.size, 1, none⟩ = some (.int .i64 at_) ∧ w'.cell? ⟨w.heap.size, 2, none⟩ = some (.int .i64 loop) ∧ w'.cell? ⟨w.heap.size, 3, none⟩ = some (.slice (some ⟨b, o, none⟩) ins.length ic) ∧ w'.cell? ⟨w.heap.size, 4, none⟩ = some (.slice (some ⟨be, oe, none⟩) exits.length ec) ∧ w'.cell? ⟨w.heap.size, 5, none⟩ = some (.int .i64 turn.at_) ∧ w'.cell? ⟨w.heap.size, 6, none⟩ = some (.int .i64 turn.steps) ∧ w'.cell? ⟨w.heap.size, 7, none⟩ = some (.slice TS turn.sets.length tsc) ∧ w'.cell? ⟨w.heap.size, 8, none⟩ = some (.slice TM turn.makes.length tmc) ∧ w'.cell? ⟨w.heap.size, 9, none⟩ = some (.int .i64 back.at_) ∧ w'.cell? ⟨w.heap.size, 10, none⟩ = some (.int .i64 back.steps) ∧ w'.cell? ⟨w.heap.size, 11, none⟩ = some (.slice BS back.sets.length bsc) ∧ w'.cell? ⟨w.heap.size, 12, none⟩ = some (.slice BM back.makes.length bmc) ∧ w'.cell? ⟨wr.heap.size, 5, none⟩ = some (.int .i64 (y : Int)) ∧ w'.cell? ⟨be, oe + y * 4, none⟩ = some (.int .i64 ex.at_) ∧ w'.cell? ⟨be, oe + y * 4 + 1, none⟩ = some (.int .i64 ex.steps) ∧ w'.cell? ⟨be, oe + y * 4 + 2, none⟩ = some (.slice As ex.sets.length cs) ∧ w'.cell? ⟨be, oe + y * 4 + 3, none⟩ = some (.slice Am ex.makes.length cm))) (by kernel_rfl) ?_ (fun hHeld0 => ?_)
                · first | trivial | ((try dsimp only); ((obtain ⟨p0, p1, p2, p3, p4, p5, p6, p7, p8, p9, p10, p11, p12⟩ := (HC.out.1.drew).cells13; exact ⟨p0, p1, p2, p3, p4, p5, p6, p7, p8, p9, p10, p11, p12, (HC.out.2.drew).cell 5 (by rw [HY.out]; rfl), e0, e1, e2, e3⟩)))
                refine held_take (v := ?_) 0 rfl (by kernel_rfl) (by kernel_rfl) (by kernel_rfl) (fun _ _ _ h => h) (by rfl) ?_ (by assumption) ?_
                rotate_left
                · (intro w hSw; (try dsimp only at hSw); go_simp; try with_reducible rfl)
                try simp only [Act.put, List.setIfInBounds_toArray, List.set_cons_zero, List.set_cons_succ]
                refine held_take (v := ?_) 1 rfl (by kernel_rfl) (by kernel_rfl) (by kernel_rfl) (fun _ _ _ h => h) (by rfl) ?_ (by assumption) ?_
                rotate_left
                · (intro w hSw; (try dsimp only at hSw); go_simp; try with_reducible rfl)
                try simp only [Act.put, List.setIfInBounds_toArray, List.set_cons_zero, List.set_cons_succ]
                refine held_take (v := ?_) 2 rfl (by kernel_rfl) (by kernel_rfl) (by kernel_rfl) (fun _ _ _ h => h) (by rfl) ?_ (by assumption) ?_
                rotate_left
                · (intro w hSw; (try dsimp only at hSw); go_simp; try with_reducible rfl)
                try simp only [Act.put, List.setIfInBounds_toArray, List.set_cons_zero, List.set_cons_succ]
                refine held_take (v := ?_) 3 rfl (by kernel_rfl) (by kernel_rfl) (by kernel_rfl) (fun _ _ _ h => h) (by rfl) ?_ (by assumption) ?_
                rotate_left
                · (intro w hSw; (try dsimp only at hSw); go_simp; try with_reducible rfl)
                try simp only [Act.put, List.setIfInBounds_toArray, List.set_cons_zero, List.set_cons_succ]
                refine held_take (v := ?_) 4 rfl (by kernel_rfl) (by kernel_rfl) (by kernel_rfl) (fun _ _ _ h => h) (by rfl) ?_ (by assumption) ?_
                rotate_left
                · (intro w hSw; (try dsimp only at hSw); go_simp; try with_reducible rfl)
                try simp only [Act.put, List.setIfInBounds_toArray, List.set_cons_zero, List.set_cons_succ]
                refine held_take (v := ?_) 5 rfl (by kernel_rfl) (by kernel_rfl) (by kernel_rfl) (fun _ _ _ h => h) (by rfl) ?_ (by assumption) ?_
                rotate_left
                · (intro w hSw; (try dsimp only at hSw); go_simp; try with_reducible rfl)
                try simp only [Act.put, List.setIfInBounds_toArray, List.set_cons_zero, List.set_cons_succ]
                refine held_take (v := ?_) 6 rfl (by kernel_rfl) (by kernel_rfl) (by kernel_rfl) (fun _ _ _ h => h) (by rfl) ?_ (by assumption) ?_
                rotate_left
                · (intro w hSw; (try dsimp only at hSw); go_simp; try with_reducible rfl)
                try simp only [Act.put, List.setIfInBounds_toArray, List.set_cons_zero, List.set_cons_succ]
                refine held_take (v := ?_) 7 rfl (by kernel_rfl) (by kernel_rfl) (by kernel_rfl) (fun _ _ _ h => h) (by rfl) ?_ (by assumption) ?_
                rotate_left
                · (intro w hSw; (try dsimp only at hSw); go_simp; try with_reducible rfl)
                try simp only [Act.put, List.setIfInBounds_toArray, List.set_cons_zero, List.set_cons_succ]
                refine held_take (v := ?_) 8 rfl (by kernel_rfl) (by kernel_rfl) (by kernel_rfl) (fun _ _ _ h => h) (by rfl) ?_ (by assumption) ?_
                rotate_left
                · (intro w hSw; (try dsimp only at hSw); go_simp; try with_reducible rfl)
                try simp only [Act.put, List.setIfInBounds_toArray, List.set_cons_zero, List.set_cons_succ]
                refine held_take (v := ?_) 9 rfl (by kernel_rfl) (by kernel_rfl) (by kernel_rfl) (fun _ _ _ h => h) (by rfl) ?_ (by assumption) ?_
                rotate_left
                · (intro w hSw; (try dsimp only at hSw); go_simp; try with_reducible rfl)
                try simp only [Act.put, List.setIfInBounds_toArray, List.set_cons_zero, List.set_cons_succ]
                refine held_take (v := ?_) 10 rfl (by kernel_rfl) (by kernel_rfl) (by kernel_rfl) (fun _ _ _ h => h) (by rfl) ?_ (by assumption) ?_
                rotate_left
                · (intro w hSw; (try dsimp only at hSw); go_simp; try with_reducible rfl)
                try simp only [Act.put, List.setIfInBounds_toArray, List.set_cons_zero, List.set_cons_succ]
                refine held_take (v := ?_) 12 rfl (by kernel_rfl) (by kernel_rfl) (by kernel_rfl) (fun _ _ _ h => h) (by rfl) ?_ (by assumption) ?_
                rotate_left
                · (intro w hSw; (try dsimp only at hSw); go_simp; try with_reducible rfl)
                try simp only [Act.put, List.setIfInBounds_toArray, List.set_cons_zero, List.set_cons_succ]
                refine held_call 11 (by kernel_rfl) rfl (fun K hK => ?_)
                go_simp
                go_at_call 63; refine (rvalues_any B cs cm N As Am ex _ (HE.out.1.drew) (HE.out.2.1.drew) (by show B ≤ wc.heap.size; omega) HE.out.2.2.2.1 HE.out.2.2.2.2.1).mono ?_; rintro e w1 ⟨A1, d1, rfl, ho1, hb1d⟩; have hb1 : Below wc.heap.size wc w1 := undrew hb1d; clear hb1d; have hs1 := hb1.size
                try (go_wp2_with fail)
                refine hK.out _ _ ?_ (fun hHeld1 => ?_)
                · first | trivial | ((try dsimp only); ((obtain ⟨p0, p1, p2, p3, p4, p5, p6, p7, p8, p9, p10, p11, p12⟩ := (HC.out.1.fresh hb1).cells13; exact ⟨p0, p1, p2, p3, p4, p5, p6, p7, p8, p9, p10, p11, p12, (HC.out.2.fresh hb1).cell 5 (by rw [HY.out]; rfl), (hb1.cell (p := ⟨be, oe + y * 4, none⟩) hbe).trans e0, (hb1.cell (p := ⟨be, oe + y * 4 + 1, none⟩) hbe).trans e1, (hb1.cell (p := ⟨be, oe + y * 4 + 2, none⟩) hbe).trans e2, (hb1.cell (p := ⟨be, oe + y * 4 + 3, none⟩) hbe).trans e3⟩)))
                clear hK K hHeld0
                try simp only [Act.put, List.setIfInBounds_toArray, List.set_cons_zero, List.set_cons_succ]
                refine held_call 13 (by kernel_rfl) rfl (fun K hK => ?_)
                go_simp
                go_at_call 61; refine (rmay_any B w1.heap.size ic d1 N _ A1 ins (Liv.vals ex) k _ _ _ _ _ _ _ _ _ _ _ _ w1 (H.out.1.i.below ((hbwc.trans (hb1.mono (by omega))).mono hB)) (by omega) hil (by omega) HE.out.2.2.2.1 (ho1.at_ HE.out.2.2.1) (Nat.le_refl _) (by have := HE.out.2.2.2.2.1; omega)).mono ?_; rintro e w2 ⟨he, hb2⟩; obtain rfl : e = .returned (.bool true) := (by (rw [he, HE.out.2.2.2.2.2]; rfl)); clear he
                try (go_wp2_with fail)
                refine hK.out _ _ ?_ (fun hHeld2 => ?_)
                · first | trivial | ((try dsimp only); ((obtain ⟨p0, p1, p2, p3, p4, p5, p6, p7, p8, p9, p10, p11, p12⟩ := ((HC.out.1.fresh hb1).fresh hb2).cells13; exact ⟨p0, p1, p2, p3, p4, p5, p6, p7, p8, p9, p10, p11, p12, ((HC.out.2.fresh hb1).fresh hb2).cell 5 (by rw [HY.out]; rfl), (hb2.cell (p := ⟨be, oe + y * 4, none⟩) (show be < w1.heap.size by omega)).trans ((hb1.cell (p := ⟨be, oe + y * 4, none⟩) hbe).trans e0), (hb2.cell (p := ⟨be, oe + y * 4 + 1, none⟩) (show be < w1.heap.size by omega)).trans ((hb1.cell (p := ⟨be, oe + y * 4 + 1, none⟩) hbe).trans e1), (hb2.cell (p := ⟨be, oe + y * 4 + 2, none⟩) (show be < w1.heap.size by omega)).trans ((hb1.cell (p := ⟨be, oe + y * 4 + 2, none⟩) hbe).trans e2), (hb2.cell (p := ⟨be, oe + y * 4 + 3, none⟩) (show be < w1.heap.size by omega)).trans ((hb1.cell (p := ⟨be, oe + y * 4 + 3, none⟩) hbe).trans e3)⟩)))
                clear hK K hHeld1
                try simp only [Act.put, List.setIfInBounds_toArray, List.set_cons_zero, List.set_cons_succ]
                refine held_take (v := ?_) 14 rfl (by kernel_rfl) (by kernel_rfl) (by kernel_rfl) (fun _ _ _ h => h) (by rfl) ?_ (by assumption) ?_
                rotate_left
                · (intro w hSw; (try dsimp only at hSw); go_simp; try with_reducible rfl)
                try simp only [Act.put, List.setIfInBounds_toArray, List.set_cons_zero, List.set_cons_succ]
                refine held_take (v := ?_) 15 rfl (by kernel_rfl) (by kernel_rfl) (by kernel_rfl) (fun _ _ _ h => h) (by rfl) ?_ (by assumption) ?_
                rotate_left
                · (intro w hSw; (try dsimp only at hSw); go_simp; try with_reducible rfl)
                try simp only [Act.put, List.setIfInBounds_toArray, List.set_cons_zero, List.set_cons_succ]
                refine wpAnyH_done (by kernel_rfl) ?_ _
                clear ho1
                go_wp2_with fail
                go_meet
                exact ⟨rfl, hb1.trans (hb2.mono (by omega))⟩
            · have hev : Liv.exitVals exits x.exit = [] := by unfold Liv.exitVals; rw [if_pos (by omega)]
              have ht : b2 = false := by rw [← HB2.out, hev]; rfl
              subst ht
              have hd3 : decide (0 ≤ x.exit) = false := by simpa using h3
              clear hev h3 hr5 hr6
              refine wp_region_held_drew (S := (fun w' => w'.cell? ⟨wr.heap.size, 5, none⟩ = some (.int .i64 x.exit))) (by kernel_rfl) ?_ (fun hHeld0 => ?_)
              · first | trivial | ((try dsimp only); (exact x5))
              refine held_take (v := ?_) 0 rfl (by kernel_rfl) (by kernel_rfl) (by kernel_rfl) (fun _ _ _ h => h) (by rfl) ?_ (by assumption) ?_
              rotate_left
              · (intro w hSw; (try dsimp only at hSw); go_simp; try with_reducible rfl)
              try simp only [Act.put, List.setIfInBounds_toArray, List.set_cons_zero, List.set_cons_succ]
              refine held_take (v := ?_) 1 rfl (by kernel_rfl) (by kernel_rfl) (by kernel_rfl) (fun _ _ _ h => h) (by rfl) ?_ (by assumption) ?_
              rotate_left
              · (intro w hSw; (try dsimp only at hSw); go_simp; try with_reducible rfl)
              try simp only [Act.put, List.setIfInBounds_toArray, List.set_cons_zero, List.set_cons_succ]
              refine held_take (v := ?_) 2 rfl (by kernel_rfl) (by kernel_rfl) (by kernel_rfl) (fun _ _ _ h => h) (by rfl) ?_ (by assumption) ?_
              rotate_left
              · (intro w hSw; (try dsimp only at hSw); go_simp; try with_reducible rfl)
              try simp only [Act.put, List.setIfInBounds_toArray, List.set_cons_zero, List.set_cons_succ]
              refine held_take (v := ?_) 3 rfl (by kernel_rfl) (by kernel_rfl) (by kernel_rfl) (fun _ _ _ h => h) (by rfl) ?_ (by assumption) ?_
              rotate_left
              · (intro w hSw; (try dsimp only at hSw); go_simp; try with_reducible rfl)
              try simp only [Act.put, List.setIfInBounds_toArray, List.set_cons_zero, List.set_cons_succ]
              refine held_skip 4 rfl (by kernel_rfl) (by kernel_rfl) (by kernel_rfl) (fun _ _ _ h => h) (by rfl) (by assumption) ?_
              try simp only [Act.put, List.setIfInBounds_toArray, List.set_cons_zero, List.set_cons_succ]
              refine held_skip 5 rfl (by kernel_rfl) (by kernel_rfl) (by kernel_rfl) (fun _ _ _ h => h) (by rfl) (by assumption) ?_
              try simp only [Act.put, List.setIfInBounds_toArray, List.set_cons_zero, List.set_cons_succ]
              refine held_skip 6 rfl (by kernel_rfl) (by kernel_rfl) (by kernel_rfl) (fun _ _ _ h => h) (by rfl) (by assumption) ?_
              try simp only [Act.put, List.setIfInBounds_toArray, List.set_cons_zero, List.set_cons_succ]
              refine held_skip 7 rfl (by kernel_rfl) (by kernel_rfl) (by kernel_rfl) (fun _ _ _ h => h) (by rfl) (by assumption) ?_
              try simp only [Act.put, List.setIfInBounds_toArray, List.set_cons_zero, List.set_cons_succ]
              refine held_skip 8 rfl (by kernel_rfl) (by kernel_rfl) (by kernel_rfl) (fun _ _ _ h => h) (by rfl) (by assumption) ?_
              try simp only [Act.put, List.setIfInBounds_toArray, List.set_cons_zero, List.set_cons_succ]
              refine held_skip 9 rfl (by kernel_rfl) (by kernel_rfl) (by kernel_rfl) (fun _ _ _ h => h) (by rfl) (by assumption) ?_
              try simp only [Act.put, List.setIfInBounds_toArray, List.set_cons_zero, List.set_cons_succ]
              refine held_skip 10 rfl (by kernel_rfl) (by kernel_rfl) (by kernel_rfl) (fun _ _ _ h => h) (by rfl) (by assumption) ?_
              try simp only [Act.put, List.setIfInBounds_toArray, List.set_cons_zero, List.set_cons_succ]
              refine held_skip 11 rfl (by kernel_rfl) (by kernel_rfl) (by kernel_rfl) (fun _ _ _ h => h) (by rfl) (by assumption) ?_
              try simp only [Act.put, List.setIfInBounds_toArray, List.set_cons_zero, List.set_cons_succ]
              refine held_skip 12 rfl (by kernel_rfl) (by kernel_rfl) (by kernel_rfl) (fun _ _ _ h => h) (by rfl) (by assumption) ?_
              try simp only [Act.put, List.setIfInBounds_toArray, List.set_cons_zero, List.set_cons_succ]
              refine held_skip 13 rfl (by kernel_rfl) (by kernel_rfl) (by kernel_rfl) (fun _ _ _ h => h) (by rfl) (by assumption) ?_
              try simp only [Act.put, List.setIfInBounds_toArray, List.set_cons_zero, List.set_cons_succ]
              refine held_skip 14 rfl (by kernel_rfl) (by kernel_rfl) (by kernel_rfl) (fun _ _ _ h => h) (by rfl) (by assumption) ?_
              try simp only [Act.put, List.setIfInBounds_toArray, List.set_cons_zero, List.set_cons_succ]
              refine held_take (v := ?_) 15 rfl (by kernel_rfl) (by kernel_rfl) (by kernel_rfl) (fun _ _ _ h => h) (by rfl) ?_ (by assumption) ?_
              rotate_left
              · (intro w hSw; (try dsimp only at hSw); go_simp; try with_reducible rfl)
              try simp only [Act.put, List.setIfInBounds_toArray, List.set_cons_zero, List.set_cons_succ]
              refine wpAnyH_done (by kernel_rfl) ?_ _
              go_wp2_with fail
              go_meet
              exact ⟨rfl, (Below.refl _ _).drew⟩
          case rest =>
            obtain ⟨rfl, hbd⟩ := hcut
            rename World => wd
            have hsd := hbd.size
            have hbwd : Below w.heap.size w wd := hbwc.trans (hbd.mono (by omega))
            cases b2 with
            | true =>
              have h7 : r = 3 := by rw [HR.out, if_pos HB2.out]
              have hq7 : q = 3 := by rw [HG.out.1 (by omega), h7]
              subst hq7
              go_wp2_with fail
              go_ret
              exact ⟨rfl, hbwd⟩
            | false =>
              have h7 : r = 0 := by rw [HR.out, if_neg (by rw [HB2.out]; decide)]
              have hsn2 := HG.out.2.1
              rw [h7] at hsn2
              have HN2 := Lib.hid hsn2; clear hsn2
              go_wp2_with fail
              go_roundg (ins.length - (k + 1))
              case measure => omega
              case rel => exact ⟨k + 1, by omega, rfl, by go_num, HN2.out, ((hbl.trans (hbV.mono (by omega))).trans (hbc.mono (by omega))).trans (hbd.mono (by omega)), by omega⟩
    · have hq2 : q = Liv.tailF ins exits turn back loop := by
        have h5 := hno.out
        rw [List.take_of_length_le (by rw [Liv.ones_length]; omega)] at h5
        have hf := Liv.fst_no _ h5
        rw [HQ.out, hf]; simp
      have HQ2 := Lib.hid hq2; clear hq2 hno HQ
      have hBr := H.out.1.below (hbw.mono hB)
      obtain ⟨hts, htm, -, -⟩ := rd_ex hBr.t
      obtain ⟨hbs, hbm, -, -⟩ := rd_ex hBr.b
      have htok := Liv.vals_ok hts htm
      have hbok := Liv.vals_ok hbs hbm
      obtain ⟨M, hM⟩ : ∃ M, (Liv.vals turn).length = M := ⟨_, rfl⟩
      obtain ⟨N, hN⟩ : ∃ N, (Liv.vals back).length = N := ⟨_, rfl⟩
      have hmb := H.out.2.2.1
      rw [hM] at hmb
      have hnb := H.out.2.2.2
      rw [hN] at hnb
      have HM := Lib.hid (And.intro hM (And.intro hmb (And.intro htok (And.intro hts htm)))); clear hM hmb htok hts htm
      have HN := Lib.hid (And.intro hN (And.intro hnb (And.intro hbok (And.intro hbs hbm)))); clear hN hnb hbok hbs hbm
      have HA := Lib.hid hBr; clear hBr
      have c2 := HB.out.cell 2 (v := .int .i64 loop) rfl
      have hM60 : M ≤ 9223372036854775807 := by have := HM.out.2.1; omega
      have hN60 : N ≤ 9223372036854775807 := by have := HN.out.2.1; omega
      obtain ⟨tb, htb⟩ : ∃ tb, ((decide (0 < loop) && (Liv.vals turn).any (Liv.bad ins loop)) || (Liv.vals back).any (Liv.bad ins ins.length)) = tb := ⟨_, rfl⟩
      have HTB := Lib.hid htb; clear htb
      go_wp2_with fail
      go_cut [103] (fun ov W2 => ov = .bool tb ∧ Below wr.heap.size wr W2)
      case first =>
        by_cases h5 : 0 < loop
        · cases hv : (Liv.vals turn).any (Liv.bad ins loop) with
          | true =>
            have ht : tb = true := by rw [← HTB.out, hv]; simp [h5]
            have HVT := Lib.hid hv; clear hv
            subst ht
            refine wp_region_held_drew (S := (fun w' => w'.cell? ⟨w.heap.size, 0, none⟩ = some (.int .i64 fn) ∧ w'.cell? ⟨w.heap.size, 1, none⟩ = some (.int .i64 at_) ∧ w'.cell? ⟨w.heap.size, 2, none⟩ = some (.int .i64 loop) ∧ w'.cell? ⟨w.heap.size, 3, none⟩ = some (.slice IA ins.length ic) ∧ w'.cell? ⟨w.heap.size, 4, none⟩ = some (.slice EA exits.length ec) ∧ w'.cell? ⟨w.heap.size, 5, none⟩ = some (.int .i64 turn.at_) ∧ w'.cell? ⟨w.heap.size, 6, none⟩ = some (.int .i64 turn.steps) ∧ w'.cell? ⟨w.heap.size, 7, none⟩ = some (.slice TS turn.sets.length tsc) ∧ w'.cell? ⟨w.heap.size, 8, none⟩ = some (.slice TM turn.makes.length tmc) ∧ w'.cell? ⟨w.heap.size, 9, none⟩ = some (.int .i64 back.at_) ∧ w'.cell? ⟨w.heap.size, 10, none⟩ = some (.int .i64 back.steps) ∧ w'.cell? ⟨w.heap.size, 11, none⟩ = some (.slice BS back.sets.length bsc) ∧ w'.cell? ⟨w.heap.size, 12, none⟩ = some (.slice BM back.makes.length bmc))) (by kernel_rfl) ?_ (fun hHeld0 => ?_)
            · first | trivial | ((try dsimp only); (obtain ⟨p0, p1, p2, p3, p4, p5, p6, p7, p8, p9, p10, p11, p12⟩ := (HB.out.drew).cells13; exact ⟨p0, p1, p2, p3, p4, p5, p6, p7, p8, p9, p10, p11, p12⟩))
            refine held_take (v := ?_) 0 rfl (by kernel_rfl) (by kernel_rfl) (by kernel_rfl) (fun _ _ _ h => h) (by rfl) ?_ (by assumption) ?_
            rotate_left
            · (intro w hSw; (try dsimp only at hSw); go_simp; try with_reducible rfl)
            try simp only [Act.put, List.setIfInBounds_toArray, List.set_cons_zero, List.set_cons_succ]
            refine held_take (v := ?_) 1 rfl (by kernel_rfl) (by kernel_rfl) (by kernel_rfl) (fun _ _ _ h => h) (by rfl) ?_ (by assumption) ?_
            rotate_left
            · (intro w hSw; (try dsimp only at hSw); go_simp; try with_reducible rfl)
            try simp only [Act.put, List.setIfInBounds_toArray, List.set_cons_zero, List.set_cons_succ]
            refine held_take (v := ?_) 2 rfl (by kernel_rfl) (by kernel_rfl) (by kernel_rfl) (fun _ _ _ h => h) (by rfl) ?_ (by assumption) ?_
            rotate_left
            · (intro w hSw; (try dsimp only at hSw); go_simp; try with_reducible rfl)
            try simp only [Act.put, List.setIfInBounds_toArray, List.set_cons_zero, List.set_cons_succ]
            refine held_take (v := ?_) 3 rfl (by kernel_rfl) (by kernel_rfl) (by kernel_rfl) (fun _ _ _ h => h) (by rfl) ?_ (by assumption) ?_
            rotate_left
            · (intro w hSw; (try dsimp only at hSw); go_simp; try with_reducible rfl)
            try simp only [Act.put, List.setIfInBounds_toArray, List.set_cons_zero, List.set_cons_succ]
            refine held_take (v := ?_) 4 rfl (by kernel_rfl) (by kernel_rfl) (by kernel_rfl) (fun _ _ _ h => h) (by rfl) ?_ (by assumption) ?_
            rotate_left
            · (intro w hSw; (try dsimp only at hSw); go_simp; try with_reducible rfl)
            try simp only [Act.put, List.setIfInBounds_toArray, List.set_cons_zero, List.set_cons_succ]
            refine held_take (v := ?_) 5 rfl (by kernel_rfl) (by kernel_rfl) (by kernel_rfl) (fun _ _ _ h => h) (by rfl) ?_ (by assumption) ?_
            rotate_left
            · (intro w hSw; (try dsimp only at hSw); go_simp; try with_reducible rfl)
            try simp only [Act.put, List.setIfInBounds_toArray, List.set_cons_zero, List.set_cons_succ]
            refine held_take (v := ?_) 6 rfl (by kernel_rfl) (by kernel_rfl) (by kernel_rfl) (fun _ _ _ h => h) (by rfl) ?_ (by assumption) ?_
            rotate_left
            · (intro w hSw; (try dsimp only at hSw); go_simp; try with_reducible rfl)
            try simp only [Act.put, List.setIfInBounds_toArray, List.set_cons_zero, List.set_cons_succ]
            refine held_take (v := ?_) 8 rfl (by kernel_rfl) (by kernel_rfl) (by kernel_rfl) (fun _ _ _ h => h) (by rfl) ?_ (by assumption) ?_
            rotate_left
            · (intro w hSw; (try dsimp only at hSw); go_simp; try with_reducible rfl)
            try simp only [Act.put, List.setIfInBounds_toArray, List.set_cons_zero, List.set_cons_succ]
            refine held_take (v := ?_) 9 rfl (by kernel_rfl) (by kernel_rfl) (by kernel_rfl) (fun _ _ _ h => h) (by rfl) ?_ (by assumption) ?_
            rotate_left
            · (intro w hSw; (try dsimp only at hSw); go_simp; try with_reducible rfl)
            try simp only [Act.put, List.setIfInBounds_toArray, List.set_cons_zero, List.set_cons_succ]
            refine held_call 7 (by kernel_rfl) rfl (fun K hK => ?_)
            go_simp
            go_at_call 63; refine (rvalues_any B tsc tmc M TS TM turn _ (HM.out.2.2.2.1.drew) (HM.out.2.2.2.2.drew) (by show B ≤ wr.heap.size; omega) HM.out.1 HM.out.2.1).mono ?_; rintro e w1 ⟨A1, d1, rfl, ho1, hb1d⟩; have hb1 : Below wr.heap.size wr w1 := undrew hb1d; clear hb1d; have hs1 := hb1.size
            try (go_wp2_with fail)
            refine hK.out _ _ ?_ (fun hHeld1 => ?_)
            · first | trivial | ((try dsimp only); (obtain ⟨p0, p1, p2, p3, p4, p5, p6, p7, p8, p9, p10, p11, p12⟩ := (HB.out.fresh hb1).cells13; exact ⟨p0, p1, p2, p3, p4, p5, p6, p7, p8, p9, p10, p11, p12⟩))
            clear hK K hHeld0
            try simp only [Act.put, List.setIfInBounds_toArray, List.set_cons_zero, List.set_cons_succ]
            refine held_call 10 (by kernel_rfl) rfl (fun K hK => ?_)
            go_simp
            go_at_call 61; refine (rmay_any B w1.heap.size ic d1 M _ A1 ins (Liv.vals turn) loop _ _ _ _ _ _ _ _ _ _ _ _ w1 (H.out.1.i.below ((hbw.trans (hb1.mono (by omega))).mono hB)) (by omega) hil (by omega) HM.out.1 (ho1.at_ HM.out.2.2.1) (Nat.le_refl _) (by omega)).mono ?_; rintro e w2 ⟨he, hb2⟩; have hs2 := hb2.size; obtain rfl : e = .returned (.bool false) := (by (rw [he, HVT.out]; rfl)); clear he
            try (go_wp2_with fail)
            refine hK.out _ _ ?_ (fun hHeld2 => ?_)
            · first | trivial | ((try dsimp only); (obtain ⟨p0, p1, p2, p3, p4, p5, p6, p7, p8, p9, p10, p11, p12⟩ := ((HB.out.fresh hb1).fresh hb2).cells13; exact ⟨p0, p1, p2, p3, p4, p5, p6, p7, p8, p9, p10, p11, p12⟩))
            clear hK K hHeld1
            try simp only [Act.put, List.setIfInBounds_toArray, List.set_cons_zero, List.set_cons_succ]
            refine held_take (v := ?_) 11 rfl (by kernel_rfl) (by kernel_rfl) (by kernel_rfl) (fun _ _ _ h => h) (by rfl) ?_ (by assumption) ?_
            rotate_left
            · (intro w hSw; (try dsimp only at hSw); go_simp; try with_reducible rfl)
            try simp only [Act.put, List.setIfInBounds_toArray, List.set_cons_zero, List.set_cons_succ]
            refine held_take (v := ?_) 12 rfl (by kernel_rfl) (by kernel_rfl) (by kernel_rfl) (fun _ _ _ h => h) (by rfl) ?_ (by assumption) ?_
            rotate_left
            · (intro w hSw; (try dsimp only at hSw); go_simp; try with_reducible rfl)
            try simp only [Act.put, List.setIfInBounds_toArray, List.set_cons_zero, List.set_cons_succ]
            refine held_take (v := ?_) 13 rfl (by kernel_rfl) (by kernel_rfl) (by kernel_rfl) (fun _ _ _ h => h) (by rfl) ?_ (by assumption) ?_
            rotate_left
            · (intro w hSw; (try dsimp only at hSw); go_simp; try with_reducible rfl)
            try simp only [Act.put, List.setIfInBounds_toArray, List.set_cons_zero, List.set_cons_succ]
            refine held_skip 14 rfl (by kernel_rfl) (by kernel_rfl) (by kernel_rfl) (fun _ _ _ h => h) (by rfl) (by assumption) ?_
            try simp only [Act.put, List.setIfInBounds_toArray, List.set_cons_zero, List.set_cons_succ]
            refine held_skip 15 rfl (by kernel_rfl) (by kernel_rfl) (by kernel_rfl) (fun _ _ _ h => h) (by rfl) (by assumption) ?_
            try simp only [Act.put, List.setIfInBounds_toArray, List.set_cons_zero, List.set_cons_succ]
            refine held_skip 16 rfl (by kernel_rfl) (by kernel_rfl) (by kernel_rfl) (fun _ _ _ h => h) (by rfl) (by assumption) ?_
            try simp only [Act.put, List.setIfInBounds_toArray, List.set_cons_zero, List.set_cons_succ]
            refine held_skip 17 rfl (by kernel_rfl) (by kernel_rfl) (by kernel_rfl) (fun _ _ _ h => h) (by rfl) (by assumption) ?_
            try simp only [Act.put, List.setIfInBounds_toArray, List.set_cons_zero, List.set_cons_succ]
            refine held_skip 18 rfl (by kernel_rfl) (by kernel_rfl) (by kernel_rfl) (fun _ _ _ h => h) (by rfl) (by assumption) ?_
            try simp only [Act.put, List.setIfInBounds_toArray, List.set_cons_zero, List.set_cons_succ]
            refine held_skip 19 rfl (by kernel_rfl) (by kernel_rfl) (by kernel_rfl) (fun _ _ _ h => h) (by rfl) (by assumption) ?_
            try simp only [Act.put, List.setIfInBounds_toArray, List.set_cons_zero, List.set_cons_succ]
            refine held_skip 20 rfl (by kernel_rfl) (by kernel_rfl) (by kernel_rfl) (fun _ _ _ h => h) (by rfl) (by assumption) ?_
            try simp only [Act.put, List.setIfInBounds_toArray, List.set_cons_zero, List.set_cons_succ]
            refine held_take (v := ?_) 21 rfl (by kernel_rfl) (by kernel_rfl) (by kernel_rfl) (fun _ _ _ h => h) (by rfl) ?_ (by assumption) ?_
            rotate_left
            · (intro w hSw; (try dsimp only at hSw); go_simp; try with_reducible rfl)
            try simp only [Act.put, List.setIfInBounds_toArray, List.set_cons_zero, List.set_cons_succ]
            refine wpAnyH_done (by kernel_rfl) ?_ _
            clear ho1
            go_wp2_with fail
            go_meet
            exact ⟨rfl, (hb1.trans (hb2.mono (by omega)))⟩
          | false =>
            cases hv2 : (Liv.vals back).any (Liv.bad ins ins.length) with
            | true =>
              have ht : tb = true := by rw [← HTB.out, hv, hv2]; simp
              have HVT := Lib.hid hv; clear hv
              have HVB := Lib.hid hv2; clear hv2
              subst ht
              refine wp_region_held_drew (S := (fun w' => w'.cell? ⟨w.heap.size, 0, none⟩ = some (.int .i64 fn) ∧ w'.cell? ⟨w.heap.size, 1, none⟩ = some (.int .i64 at_) ∧ w'.cell? ⟨w.heap.size, 2, none⟩ = some (.int .i64 loop) ∧ w'.cell? ⟨w.heap.size, 3, none⟩ = some (.slice IA ins.length ic) ∧ w'.cell? ⟨w.heap.size, 4, none⟩ = some (.slice EA exits.length ec) ∧ w'.cell? ⟨w.heap.size, 5, none⟩ = some (.int .i64 turn.at_) ∧ w'.cell? ⟨w.heap.size, 6, none⟩ = some (.int .i64 turn.steps) ∧ w'.cell? ⟨w.heap.size, 7, none⟩ = some (.slice TS turn.sets.length tsc) ∧ w'.cell? ⟨w.heap.size, 8, none⟩ = some (.slice TM turn.makes.length tmc) ∧ w'.cell? ⟨w.heap.size, 9, none⟩ = some (.int .i64 back.at_) ∧ w'.cell? ⟨w.heap.size, 10, none⟩ = some (.int .i64 back.steps) ∧ w'.cell? ⟨w.heap.size, 11, none⟩ = some (.slice BS back.sets.length bsc) ∧ w'.cell? ⟨w.heap.size, 12, none⟩ = some (.slice BM back.makes.length bmc))) (by kernel_rfl) ?_ (fun hHeld0 => ?_)
              · first | trivial | ((try dsimp only); (obtain ⟨p0, p1, p2, p3, p4, p5, p6, p7, p8, p9, p10, p11, p12⟩ := (HB.out.drew).cells13; exact ⟨p0, p1, p2, p3, p4, p5, p6, p7, p8, p9, p10, p11, p12⟩))
              refine held_take (v := ?_) 0 rfl (by kernel_rfl) (by kernel_rfl) (by kernel_rfl) (fun _ _ _ h => h) (by rfl) ?_ (by assumption) ?_
              rotate_left
              · (intro w hSw; (try dsimp only at hSw); go_simp; try with_reducible rfl)
              try simp only [Act.put, List.setIfInBounds_toArray, List.set_cons_zero, List.set_cons_succ]
              refine held_take (v := ?_) 1 rfl (by kernel_rfl) (by kernel_rfl) (by kernel_rfl) (fun _ _ _ h => h) (by rfl) ?_ (by assumption) ?_
              rotate_left
              · (intro w hSw; (try dsimp only at hSw); go_simp; try with_reducible rfl)
              try simp only [Act.put, List.setIfInBounds_toArray, List.set_cons_zero, List.set_cons_succ]
              refine held_take (v := ?_) 2 rfl (by kernel_rfl) (by kernel_rfl) (by kernel_rfl) (fun _ _ _ h => h) (by rfl) ?_ (by assumption) ?_
              rotate_left
              · (intro w hSw; (try dsimp only at hSw); go_simp; try with_reducible rfl)
              try simp only [Act.put, List.setIfInBounds_toArray, List.set_cons_zero, List.set_cons_succ]
              refine held_take (v := ?_) 3 rfl (by kernel_rfl) (by kernel_rfl) (by kernel_rfl) (fun _ _ _ h => h) (by rfl) ?_ (by assumption) ?_
              rotate_left
              · (intro w hSw; (try dsimp only at hSw); go_simp; try with_reducible rfl)
              try simp only [Act.put, List.setIfInBounds_toArray, List.set_cons_zero, List.set_cons_succ]
              refine held_take (v := ?_) 4 rfl (by kernel_rfl) (by kernel_rfl) (by kernel_rfl) (fun _ _ _ h => h) (by rfl) ?_ (by assumption) ?_
              rotate_left
              · (intro w hSw; (try dsimp only at hSw); go_simp; try with_reducible rfl)
              try simp only [Act.put, List.setIfInBounds_toArray, List.set_cons_zero, List.set_cons_succ]
              refine held_take (v := ?_) 5 rfl (by kernel_rfl) (by kernel_rfl) (by kernel_rfl) (fun _ _ _ h => h) (by rfl) ?_ (by assumption) ?_
              rotate_left
              · (intro w hSw; (try dsimp only at hSw); go_simp; try with_reducible rfl)
              try simp only [Act.put, List.setIfInBounds_toArray, List.set_cons_zero, List.set_cons_succ]
              refine held_take (v := ?_) 6 rfl (by kernel_rfl) (by kernel_rfl) (by kernel_rfl) (fun _ _ _ h => h) (by rfl) ?_ (by assumption) ?_
              rotate_left
              · (intro w hSw; (try dsimp only at hSw); go_simp; try with_reducible rfl)
              try simp only [Act.put, List.setIfInBounds_toArray, List.set_cons_zero, List.set_cons_succ]
              refine held_take (v := ?_) 8 rfl (by kernel_rfl) (by kernel_rfl) (by kernel_rfl) (fun _ _ _ h => h) (by rfl) ?_ (by assumption) ?_
              rotate_left
              · (intro w hSw; (try dsimp only at hSw); go_simp; try with_reducible rfl)
              try simp only [Act.put, List.setIfInBounds_toArray, List.set_cons_zero, List.set_cons_succ]
              refine held_take (v := ?_) 9 rfl (by kernel_rfl) (by kernel_rfl) (by kernel_rfl) (fun _ _ _ h => h) (by rfl) ?_ (by assumption) ?_
              rotate_left
              · (intro w hSw; (try dsimp only at hSw); go_simp; try with_reducible rfl)
              try simp only [Act.put, List.setIfInBounds_toArray, List.set_cons_zero, List.set_cons_succ]
              refine held_call 7 (by kernel_rfl) rfl (fun K hK => ?_)
              go_simp
              go_at_call 63; refine (rvalues_any B tsc tmc M TS TM turn _ (HM.out.2.2.2.1.drew) (HM.out.2.2.2.2.drew) (by show B ≤ wr.heap.size; omega) HM.out.1 HM.out.2.1).mono ?_; rintro e w1 ⟨A1, d1, rfl, ho1, hb1d⟩; have hb1 : Below wr.heap.size wr w1 := undrew hb1d; clear hb1d; have hs1 := hb1.size
              try (go_wp2_with fail)
              refine hK.out _ _ ?_ (fun hHeld1 => ?_)
              · first | trivial | ((try dsimp only); (obtain ⟨p0, p1, p2, p3, p4, p5, p6, p7, p8, p9, p10, p11, p12⟩ := (HB.out.fresh hb1).cells13; exact ⟨p0, p1, p2, p3, p4, p5, p6, p7, p8, p9, p10, p11, p12⟩))
              clear hK K hHeld0
              try simp only [Act.put, List.setIfInBounds_toArray, List.set_cons_zero, List.set_cons_succ]
              refine held_call 10 (by kernel_rfl) rfl (fun K hK => ?_)
              go_simp
              go_at_call 61; refine (rmay_any B w1.heap.size ic d1 M _ A1 ins (Liv.vals turn) loop _ _ _ _ _ _ _ _ _ _ _ _ w1 (H.out.1.i.below ((hbw.trans (hb1.mono (by omega))).mono hB)) (by omega) hil (by omega) HM.out.1 (ho1.at_ HM.out.2.2.1) (Nat.le_refl _) (by omega)).mono ?_; rintro e w2 ⟨he, hb2⟩; have hs2 := hb2.size; obtain rfl : e = .returned (.bool true) := (by (rw [he, HVT.out]; rfl)); clear he
              try (go_wp2_with fail)
              refine hK.out _ _ ?_ (fun hHeld2 => ?_)
              · first | trivial | ((try dsimp only); (obtain ⟨p0, p1, p2, p3, p4, p5, p6, p7, p8, p9, p10, p11, p12⟩ := ((HB.out.fresh hb1).fresh hb2).cells13; exact ⟨p0, p1, p2, p3, p4, p5, p6, p7, p8, p9, p10, p11, p12⟩))
              clear hK K hHeld1
              try simp only [Act.put, List.setIfInBounds_toArray, List.set_cons_zero, List.set_cons_succ]
              refine held_take (v := ?_) 11 rfl (by kernel_rfl) (by kernel_rfl) (by kernel_rfl) (fun _ _ _ h => h) (by rfl) ?_ (by assumption) ?_
              rotate_left
              · (intro w hSw; (try dsimp only at hSw); go_simp; try with_reducible rfl)
              try simp only [Act.put, List.setIfInBounds_toArray, List.set_cons_zero, List.set_cons_succ]
              refine held_take (v := ?_) 12 rfl (by kernel_rfl) (by kernel_rfl) (by kernel_rfl) (fun _ _ _ h => h) (by rfl) ?_ (by assumption) ?_
              rotate_left
              · (intro w hSw; (try dsimp only at hSw); go_simp; try with_reducible rfl)
              try simp only [Act.put, List.setIfInBounds_toArray, List.set_cons_zero, List.set_cons_succ]
              refine held_take (v := ?_) 13 rfl (by kernel_rfl) (by kernel_rfl) (by kernel_rfl) (fun _ _ _ h => h) (by rfl) ?_ (by assumption) ?_
              rotate_left
              · (intro w hSw; (try dsimp only at hSw); go_simp; try with_reducible rfl)
              try simp only [Act.put, List.setIfInBounds_toArray, List.set_cons_zero, List.set_cons_succ]
              refine held_take (v := ?_) 14 rfl (by kernel_rfl) (by kernel_rfl) (by kernel_rfl) (fun _ _ _ h => h) (by rfl) ?_ (by assumption) ?_
              rotate_left
              · (intro w hSw; (try dsimp only at hSw); go_simp; try with_reducible rfl)
              try simp only [Act.put, List.setIfInBounds_toArray, List.set_cons_zero, List.set_cons_succ]
              refine held_take (v := ?_) 15 rfl (by kernel_rfl) (by kernel_rfl) (by kernel_rfl) (fun _ _ _ h => h) (by rfl) ?_ (by assumption) ?_
              rotate_left
              · (intro w hSw; (try dsimp only at hSw); go_simp; try with_reducible rfl)
              try simp only [Act.put, List.setIfInBounds_toArray, List.set_cons_zero, List.set_cons_succ]
              refine held_take (v := ?_) 16 rfl (by kernel_rfl) (by kernel_rfl) (by kernel_rfl) (fun _ _ _ h => h) (by rfl) ?_ (by assumption) ?_
              rotate_left
              · (intro w hSw; (try dsimp only at hSw); go_simp; try with_reducible rfl)
              try simp only [Act.put, List.setIfInBounds_toArray, List.set_cons_zero, List.set_cons_succ]
              refine held_take (v := ?_) 18 rfl (by kernel_rfl) (by kernel_rfl) (by kernel_rfl) (fun _ _ _ h => h) (by rfl) ?_ (by assumption) ?_
              rotate_left
              · (intro w hSw; (try dsimp only at hSw); go_simp; try with_reducible rfl)
              try simp only [Act.put, List.setIfInBounds_toArray, List.set_cons_zero, List.set_cons_succ]
              refine held_call 17 (by kernel_rfl) rfl (fun K hK => ?_)
              go_simp
              go_at_call 63; refine (rvalues_any B bsc bmc N BS BM back w2 ((HN.out.2.2.2.1.below (hb1.mono (by omega))).below (hb2.mono (by omega))) ((HN.out.2.2.2.2.below (hb1.mono (by omega))).below (hb2.mono (by omega))) (by omega) HN.out.1 HN.out.2.1).mono ?_; rintro e w3 ⟨A3, d3, rfl, ho3, hb3⟩; have hs3 := hb3.size
              try (go_wp2_with fail)
              refine hK.out _ _ ?_ (fun hHeld3 => ?_)
              · first | trivial | ((try dsimp only); (obtain ⟨p0, p1, p2, p3, p4, p5, p6, p7, p8, p9, p10, p11, p12⟩ := (((HB.out.fresh hb1).fresh hb2).fresh hb3).cells13; exact ⟨p0, p1, p2, p3, p4, p5, p6, p7, p8, p9, p10, p11, p12⟩))
              clear hK K hHeld2
              try simp only [Act.put, List.setIfInBounds_toArray, List.set_cons_zero, List.set_cons_succ]
              refine held_call 19 (by kernel_rfl) rfl (fun K hK => ?_)
              go_simp
              go_at_call 61; refine (rmay_any B w3.heap.size ic d3 N _ A3 ins (Liv.vals back) ins.length _ _ _ _ _ _ _ _ _ _ _ _ w3 (H.out.1.i.below ((((hbw.trans (hb1.mono (by omega))).trans (hb2.mono (by omega))).trans (hb3.mono (by omega))).mono hB)) (by omega) hil (Int.le_refl _) HN.out.1 (ho3.at_ HN.out.2.2.1) (Nat.le_refl _) (by omega)).mono ?_; rintro e w4 ⟨he, hb4⟩; have hs4 := hb4.size; obtain rfl : e = .returned (.bool false) := (by (rw [he, HVB.out]; rfl)); clear he
              try (go_wp2_with fail)
              refine hK.out _ _ ?_ (fun hHeld4 => ?_)
              · first | trivial | ((try dsimp only); (obtain ⟨p0, p1, p2, p3, p4, p5, p6, p7, p8, p9, p10, p11, p12⟩ := ((((HB.out.fresh hb1).fresh hb2).fresh hb3).fresh hb4).cells13; exact ⟨p0, p1, p2, p3, p4, p5, p6, p7, p8, p9, p10, p11, p12⟩))
              clear hK K hHeld3
              try simp only [Act.put, List.setIfInBounds_toArray, List.set_cons_zero, List.set_cons_succ]
              refine held_take (v := ?_) 20 rfl (by kernel_rfl) (by kernel_rfl) (by kernel_rfl) (fun _ _ _ h => h) (by rfl) ?_ (by assumption) ?_
              rotate_left
              · (intro w hSw; (try dsimp only at hSw); go_simp; try with_reducible rfl)
              try simp only [Act.put, List.setIfInBounds_toArray, List.set_cons_zero, List.set_cons_succ]
              refine held_take (v := ?_) 21 rfl (by kernel_rfl) (by kernel_rfl) (by kernel_rfl) (fun _ _ _ h => h) (by rfl) ?_ (by assumption) ?_
              rotate_left
              · (intro w hSw; (try dsimp only at hSw); go_simp; try with_reducible rfl)
              try simp only [Act.put, List.setIfInBounds_toArray, List.set_cons_zero, List.set_cons_succ]
              refine wpAnyH_done (by kernel_rfl) ?_ _
              clear ho1 ho3
              go_wp2_with fail
              go_meet
              exact ⟨rfl, (((hb1.trans (hb2.mono (by omega))).trans (hb3.mono (by omega))).trans (hb4.mono (by omega)))⟩
            | false =>
              have ht : tb = false := by rw [← HTB.out, hv, hv2]; simp
              have HVT := Lib.hid hv; clear hv
              have HVB := Lib.hid hv2; clear hv2
              subst ht
              refine wp_region_held_drew (S := (fun w' => w'.cell? ⟨w.heap.size, 0, none⟩ = some (.int .i64 fn) ∧ w'.cell? ⟨w.heap.size, 1, none⟩ = some (.int .i64 at_) ∧ w'.cell? ⟨w.heap.size, 2, none⟩ = some (.int .i64 loop) ∧ w'.cell? ⟨w.heap.size, 3, none⟩ = some (.slice IA ins.length ic) ∧ w'.cell? ⟨w.heap.size, 4, none⟩ = some (.slice EA exits.length ec) ∧ w'.cell? ⟨w.heap.size, 5, none⟩ = some (.int .i64 turn.at_) ∧ w'.cell? ⟨w.heap.size, 6, none⟩ = some (.int .i64 turn.steps) ∧ w'.cell? ⟨w.heap.size, 7, none⟩ = some (.slice TS turn.sets.length tsc) ∧ w'.cell? ⟨w.heap.size, 8, none⟩ = some (.slice TM turn.makes.length tmc) ∧ w'.cell? ⟨w.heap.size, 9, none⟩ = some (.int .i64 back.at_) ∧ w'.cell? ⟨w.heap.size, 10, none⟩ = some (.int .i64 back.steps) ∧ w'.cell? ⟨w.heap.size, 11, none⟩ = some (.slice BS back.sets.length bsc) ∧ w'.cell? ⟨w.heap.size, 12, none⟩ = some (.slice BM back.makes.length bmc))) (by kernel_rfl) ?_ (fun hHeld0 => ?_)
              · first | trivial | ((try dsimp only); (obtain ⟨p0, p1, p2, p3, p4, p5, p6, p7, p8, p9, p10, p11, p12⟩ := (HB.out.drew).cells13; exact ⟨p0, p1, p2, p3, p4, p5, p6, p7, p8, p9, p10, p11, p12⟩))
              refine held_take (v := ?_) 0 rfl (by kernel_rfl) (by kernel_rfl) (by kernel_rfl) (fun _ _ _ h => h) (by rfl) ?_ (by assumption) ?_
              rotate_left
              · (intro w hSw; (try dsimp only at hSw); go_simp; try with_reducible rfl)
              try simp only [Act.put, List.setIfInBounds_toArray, List.set_cons_zero, List.set_cons_succ]
              refine held_take (v := ?_) 1 rfl (by kernel_rfl) (by kernel_rfl) (by kernel_rfl) (fun _ _ _ h => h) (by rfl) ?_ (by assumption) ?_
              rotate_left
              · (intro w hSw; (try dsimp only at hSw); go_simp; try with_reducible rfl)
              try simp only [Act.put, List.setIfInBounds_toArray, List.set_cons_zero, List.set_cons_succ]
              refine held_take (v := ?_) 2 rfl (by kernel_rfl) (by kernel_rfl) (by kernel_rfl) (fun _ _ _ h => h) (by rfl) ?_ (by assumption) ?_
              rotate_left
              · (intro w hSw; (try dsimp only at hSw); go_simp; try with_reducible rfl)
              try simp only [Act.put, List.setIfInBounds_toArray, List.set_cons_zero, List.set_cons_succ]
              refine held_take (v := ?_) 3 rfl (by kernel_rfl) (by kernel_rfl) (by kernel_rfl) (fun _ _ _ h => h) (by rfl) ?_ (by assumption) ?_
              rotate_left
              · (intro w hSw; (try dsimp only at hSw); go_simp; try with_reducible rfl)
              try simp only [Act.put, List.setIfInBounds_toArray, List.set_cons_zero, List.set_cons_succ]
              refine held_take (v := ?_) 4 rfl (by kernel_rfl) (by kernel_rfl) (by kernel_rfl) (fun _ _ _ h => h) (by rfl) ?_ (by assumption) ?_
              rotate_left
              · (intro w hSw; (try dsimp only at hSw); go_simp; try with_reducible rfl)
              try simp only [Act.put, List.setIfInBounds_toArray, List.set_cons_zero, List.set_cons_succ]
              refine held_take (v := ?_) 5 rfl (by kernel_rfl) (by kernel_rfl) (by kernel_rfl) (fun _ _ _ h => h) (by rfl) ?_ (by assumption) ?_
              rotate_left
              · (intro w hSw; (try dsimp only at hSw); go_simp; try with_reducible rfl)
              try simp only [Act.put, List.setIfInBounds_toArray, List.set_cons_zero, List.set_cons_succ]
              refine held_take (v := ?_) 6 rfl (by kernel_rfl) (by kernel_rfl) (by kernel_rfl) (fun _ _ _ h => h) (by rfl) ?_ (by assumption) ?_
              rotate_left
              · (intro w hSw; (try dsimp only at hSw); go_simp; try with_reducible rfl)
              try simp only [Act.put, List.setIfInBounds_toArray, List.set_cons_zero, List.set_cons_succ]
              refine held_take (v := ?_) 8 rfl (by kernel_rfl) (by kernel_rfl) (by kernel_rfl) (fun _ _ _ h => h) (by rfl) ?_ (by assumption) ?_
              rotate_left
              · (intro w hSw; (try dsimp only at hSw); go_simp; try with_reducible rfl)
              try simp only [Act.put, List.setIfInBounds_toArray, List.set_cons_zero, List.set_cons_succ]
              refine held_take (v := ?_) 9 rfl (by kernel_rfl) (by kernel_rfl) (by kernel_rfl) (fun _ _ _ h => h) (by rfl) ?_ (by assumption) ?_
              rotate_left
              · (intro w hSw; (try dsimp only at hSw); go_simp; try with_reducible rfl)
              try simp only [Act.put, List.setIfInBounds_toArray, List.set_cons_zero, List.set_cons_succ]
              refine held_call 7 (by kernel_rfl) rfl (fun K hK => ?_)
              go_simp
              go_at_call 63; refine (rvalues_any B tsc tmc M TS TM turn _ (HM.out.2.2.2.1.drew) (HM.out.2.2.2.2.drew) (by show B ≤ wr.heap.size; omega) HM.out.1 HM.out.2.1).mono ?_; rintro e w1 ⟨A1, d1, rfl, ho1, hb1d⟩; have hb1 : Below wr.heap.size wr w1 := undrew hb1d; clear hb1d; have hs1 := hb1.size
              try (go_wp2_with fail)
              refine hK.out _ _ ?_ (fun hHeld1 => ?_)
              · first | trivial | ((try dsimp only); (obtain ⟨p0, p1, p2, p3, p4, p5, p6, p7, p8, p9, p10, p11, p12⟩ := (HB.out.fresh hb1).cells13; exact ⟨p0, p1, p2, p3, p4, p5, p6, p7, p8, p9, p10, p11, p12⟩))
              clear hK K hHeld0
              try simp only [Act.put, List.setIfInBounds_toArray, List.set_cons_zero, List.set_cons_succ]
              refine held_call 10 (by kernel_rfl) rfl (fun K hK => ?_)
              go_simp
              go_at_call 61; refine (rmay_any B w1.heap.size ic d1 M _ A1 ins (Liv.vals turn) loop _ _ _ _ _ _ _ _ _ _ _ _ w1 (H.out.1.i.below ((hbw.trans (hb1.mono (by omega))).mono hB)) (by omega) hil (by omega) HM.out.1 (ho1.at_ HM.out.2.2.1) (Nat.le_refl _) (by omega)).mono ?_; rintro e w2 ⟨he, hb2⟩; have hs2 := hb2.size; obtain rfl : e = .returned (.bool true) := (by (rw [he, HVT.out]; rfl)); clear he
              try (go_wp2_with fail)
              refine hK.out _ _ ?_ (fun hHeld2 => ?_)
              · first | trivial | ((try dsimp only); (obtain ⟨p0, p1, p2, p3, p4, p5, p6, p7, p8, p9, p10, p11, p12⟩ := ((HB.out.fresh hb1).fresh hb2).cells13; exact ⟨p0, p1, p2, p3, p4, p5, p6, p7, p8, p9, p10, p11, p12⟩))
              clear hK K hHeld1
              try simp only [Act.put, List.setIfInBounds_toArray, List.set_cons_zero, List.set_cons_succ]
              refine held_take (v := ?_) 11 rfl (by kernel_rfl) (by kernel_rfl) (by kernel_rfl) (fun _ _ _ h => h) (by rfl) ?_ (by assumption) ?_
              rotate_left
              · (intro w hSw; (try dsimp only at hSw); go_simp; try with_reducible rfl)
              try simp only [Act.put, List.setIfInBounds_toArray, List.set_cons_zero, List.set_cons_succ]
              refine held_take (v := ?_) 12 rfl (by kernel_rfl) (by kernel_rfl) (by kernel_rfl) (fun _ _ _ h => h) (by rfl) ?_ (by assumption) ?_
              rotate_left
              · (intro w hSw; (try dsimp only at hSw); go_simp; try with_reducible rfl)
              try simp only [Act.put, List.setIfInBounds_toArray, List.set_cons_zero, List.set_cons_succ]
              refine held_take (v := ?_) 13 rfl (by kernel_rfl) (by kernel_rfl) (by kernel_rfl) (fun _ _ _ h => h) (by rfl) ?_ (by assumption) ?_
              rotate_left
              · (intro w hSw; (try dsimp only at hSw); go_simp; try with_reducible rfl)
              try simp only [Act.put, List.setIfInBounds_toArray, List.set_cons_zero, List.set_cons_succ]
              refine held_take (v := ?_) 14 rfl (by kernel_rfl) (by kernel_rfl) (by kernel_rfl) (fun _ _ _ h => h) (by rfl) ?_ (by assumption) ?_
              rotate_left
              · (intro w hSw; (try dsimp only at hSw); go_simp; try with_reducible rfl)
              try simp only [Act.put, List.setIfInBounds_toArray, List.set_cons_zero, List.set_cons_succ]
              refine held_take (v := ?_) 15 rfl (by kernel_rfl) (by kernel_rfl) (by kernel_rfl) (fun _ _ _ h => h) (by rfl) ?_ (by assumption) ?_
              rotate_left
              · (intro w hSw; (try dsimp only at hSw); go_simp; try with_reducible rfl)
              try simp only [Act.put, List.setIfInBounds_toArray, List.set_cons_zero, List.set_cons_succ]
              refine held_take (v := ?_) 16 rfl (by kernel_rfl) (by kernel_rfl) (by kernel_rfl) (fun _ _ _ h => h) (by rfl) ?_ (by assumption) ?_
              rotate_left
              · (intro w hSw; (try dsimp only at hSw); go_simp; try with_reducible rfl)
              try simp only [Act.put, List.setIfInBounds_toArray, List.set_cons_zero, List.set_cons_succ]
              refine held_take (v := ?_) 18 rfl (by kernel_rfl) (by kernel_rfl) (by kernel_rfl) (fun _ _ _ h => h) (by rfl) ?_ (by assumption) ?_
              rotate_left
              · (intro w hSw; (try dsimp only at hSw); go_simp; try with_reducible rfl)
              try simp only [Act.put, List.setIfInBounds_toArray, List.set_cons_zero, List.set_cons_succ]
              refine held_call 17 (by kernel_rfl) rfl (fun K hK => ?_)
              go_simp
              go_at_call 63; refine (rvalues_any B bsc bmc N BS BM back w2 ((HN.out.2.2.2.1.below (hb1.mono (by omega))).below (hb2.mono (by omega))) ((HN.out.2.2.2.2.below (hb1.mono (by omega))).below (hb2.mono (by omega))) (by omega) HN.out.1 HN.out.2.1).mono ?_; rintro e w3 ⟨A3, d3, rfl, ho3, hb3⟩; have hs3 := hb3.size
              try (go_wp2_with fail)
              refine hK.out _ _ ?_ (fun hHeld3 => ?_)
              · first | trivial | ((try dsimp only); (obtain ⟨p0, p1, p2, p3, p4, p5, p6, p7, p8, p9, p10, p11, p12⟩ := (((HB.out.fresh hb1).fresh hb2).fresh hb3).cells13; exact ⟨p0, p1, p2, p3, p4, p5, p6, p7, p8, p9, p10, p11, p12⟩))
              clear hK K hHeld2
              try simp only [Act.put, List.setIfInBounds_toArray, List.set_cons_zero, List.set_cons_succ]
              refine held_call 19 (by kernel_rfl) rfl (fun K hK => ?_)
              go_simp
              go_at_call 61; refine (rmay_any B w3.heap.size ic d3 N _ A3 ins (Liv.vals back) ins.length _ _ _ _ _ _ _ _ _ _ _ _ w3 (H.out.1.i.below ((((hbw.trans (hb1.mono (by omega))).trans (hb2.mono (by omega))).trans (hb3.mono (by omega))).mono hB)) (by omega) hil (Int.le_refl _) HN.out.1 (ho3.at_ HN.out.2.2.1) (Nat.le_refl _) (by omega)).mono ?_; rintro e w4 ⟨he, hb4⟩; have hs4 := hb4.size; obtain rfl : e = .returned (.bool true) := (by (rw [he, HVB.out]; rfl)); clear he
              try (go_wp2_with fail)
              refine hK.out _ _ ?_ (fun hHeld4 => ?_)
              · first | trivial | ((try dsimp only); (obtain ⟨p0, p1, p2, p3, p4, p5, p6, p7, p8, p9, p10, p11, p12⟩ := ((((HB.out.fresh hb1).fresh hb2).fresh hb3).fresh hb4).cells13; exact ⟨p0, p1, p2, p3, p4, p5, p6, p7, p8, p9, p10, p11, p12⟩))
              clear hK K hHeld3
              try simp only [Act.put, List.setIfInBounds_toArray, List.set_cons_zero, List.set_cons_succ]
              refine held_take (v := ?_) 20 rfl (by kernel_rfl) (by kernel_rfl) (by kernel_rfl) (fun _ _ _ h => h) (by rfl) ?_ (by assumption) ?_
              rotate_left
              · (intro w hSw; (try dsimp only at hSw); go_simp; try with_reducible rfl)
              try simp only [Act.put, List.setIfInBounds_toArray, List.set_cons_zero, List.set_cons_succ]
              refine held_take (v := ?_) 21 rfl (by kernel_rfl) (by kernel_rfl) (by kernel_rfl) (fun _ _ _ h => h) (by rfl) ?_ (by assumption) ?_
              rotate_left
              · (intro w hSw; (try dsimp only at hSw); go_simp; try with_reducible rfl)
              try simp only [Act.put, List.setIfInBounds_toArray, List.set_cons_zero, List.set_cons_succ]
              refine wpAnyH_done (by kernel_rfl) ?_ _
              clear ho1 ho3
              go_wp2_with fail
              go_meet
              exact ⟨rfl, (((hb1.trans (hb2.mono (by omega))).trans (hb3.mono (by omega))).trans (hb4.mono (by omega)))⟩
        · have hd5 : decide (0 < loop) = false := by simpa using h5
          cases hv2 : (Liv.vals back).any (Liv.bad ins ins.length) with
          | true =>
            have ht : tb = true := by rw [← HTB.out, hd5, hv2]; simp
            have HVB := Lib.hid hv2; clear hv2
            subst ht
            clear h5
            refine wp_region_held_drew (S := (fun w' => w'.cell? ⟨w.heap.size, 0, none⟩ = some (.int .i64 fn) ∧ w'.cell? ⟨w.heap.size, 1, none⟩ = some (.int .i64 at_) ∧ w'.cell? ⟨w.heap.size, 2, none⟩ = some (.int .i64 loop) ∧ w'.cell? ⟨w.heap.size, 3, none⟩ = some (.slice IA ins.length ic) ∧ w'.cell? ⟨w.heap.size, 4, none⟩ = some (.slice EA exits.length ec) ∧ w'.cell? ⟨w.heap.size, 5, none⟩ = some (.int .i64 turn.at_) ∧ w'.cell? ⟨w.heap.size, 6, none⟩ = some (.int .i64 turn.steps) ∧ w'.cell? ⟨w.heap.size, 7, none⟩ = some (.slice TS turn.sets.length tsc) ∧ w'.cell? ⟨w.heap.size, 8, none⟩ = some (.slice TM turn.makes.length tmc) ∧ w'.cell? ⟨w.heap.size, 9, none⟩ = some (.int .i64 back.at_) ∧ w'.cell? ⟨w.heap.size, 10, none⟩ = some (.int .i64 back.steps) ∧ w'.cell? ⟨w.heap.size, 11, none⟩ = some (.slice BS back.sets.length bsc) ∧ w'.cell? ⟨w.heap.size, 12, none⟩ = some (.slice BM back.makes.length bmc))) (by kernel_rfl) ?_ (fun hHeld0 => ?_)
            · first | trivial | ((try dsimp only); (obtain ⟨p0, p1, p2, p3, p4, p5, p6, p7, p8, p9, p10, p11, p12⟩ := (HB.out.drew).cells13; exact ⟨p0, p1, p2, p3, p4, p5, p6, p7, p8, p9, p10, p11, p12⟩))
            refine held_take (v := ?_) 0 rfl (by kernel_rfl) (by kernel_rfl) (by kernel_rfl) (fun _ _ _ h => h) (by rfl) ?_ (by assumption) ?_
            rotate_left
            · (intro w hSw; (try dsimp only at hSw); go_simp; try with_reducible rfl)
            try simp only [Act.put, List.setIfInBounds_toArray, List.set_cons_zero, List.set_cons_succ]
            refine held_take (v := ?_) 1 rfl (by kernel_rfl) (by kernel_rfl) (by kernel_rfl) (fun _ _ _ h => h) (by rfl) ?_ (by assumption) ?_
            rotate_left
            · (intro w hSw; (try dsimp only at hSw); go_simp; try with_reducible rfl)
            try simp only [Act.put, List.setIfInBounds_toArray, List.set_cons_zero, List.set_cons_succ]
            refine held_take (v := ?_) 2 rfl (by kernel_rfl) (by kernel_rfl) (by kernel_rfl) (fun _ _ _ h => h) (by rfl) ?_ (by assumption) ?_
            rotate_left
            · (intro w hSw; (try dsimp only at hSw); go_simp; try with_reducible rfl)
            try simp only [Act.put, List.setIfInBounds_toArray, List.set_cons_zero, List.set_cons_succ]
            refine held_take (v := ?_) 3 rfl (by kernel_rfl) (by kernel_rfl) (by kernel_rfl) (fun _ _ _ h => h) (by rfl) ?_ (by assumption) ?_
            rotate_left
            · (intro w hSw; (try dsimp only at hSw); go_simp; try with_reducible rfl)
            try simp only [Act.put, List.setIfInBounds_toArray, List.set_cons_zero, List.set_cons_succ]
            refine held_skip 4 rfl (by kernel_rfl) (by kernel_rfl) (by kernel_rfl) (fun _ _ _ h => h) (by rfl) (by assumption) ?_
            try simp only [Act.put, List.setIfInBounds_toArray, List.set_cons_zero, List.set_cons_succ]
            refine held_skip 5 rfl (by kernel_rfl) (by kernel_rfl) (by kernel_rfl) (fun _ _ _ h => h) (by rfl) (by assumption) ?_
            try simp only [Act.put, List.setIfInBounds_toArray, List.set_cons_zero, List.set_cons_succ]
            refine held_skip 6 rfl (by kernel_rfl) (by kernel_rfl) (by kernel_rfl) (fun _ _ _ h => h) (by rfl) (by assumption) ?_
            try simp only [Act.put, List.setIfInBounds_toArray, List.set_cons_zero, List.set_cons_succ]
            refine held_skip 7 rfl (by kernel_rfl) (by kernel_rfl) (by kernel_rfl) (fun _ _ _ h => h) (by rfl) (by assumption) ?_
            try simp only [Act.put, List.setIfInBounds_toArray, List.set_cons_zero, List.set_cons_succ]
            refine held_skip 8 rfl (by kernel_rfl) (by kernel_rfl) (by kernel_rfl) (fun _ _ _ h => h) (by rfl) (by assumption) ?_
            try simp only [Act.put, List.setIfInBounds_toArray, List.set_cons_zero, List.set_cons_succ]
            refine held_skip 9 rfl (by kernel_rfl) (by kernel_rfl) (by kernel_rfl) (fun _ _ _ h => h) (by rfl) (by assumption) ?_
            try simp only [Act.put, List.setIfInBounds_toArray, List.set_cons_zero, List.set_cons_succ]
            refine held_skip 10 rfl (by kernel_rfl) (by kernel_rfl) (by kernel_rfl) (fun _ _ _ h => h) (by rfl) (by assumption) ?_
            try simp only [Act.put, List.setIfInBounds_toArray, List.set_cons_zero, List.set_cons_succ]
            refine held_skip 11 rfl (by kernel_rfl) (by kernel_rfl) (by kernel_rfl) (fun _ _ _ h => h) (by rfl) (by assumption) ?_
            try simp only [Act.put, List.setIfInBounds_toArray, List.set_cons_zero, List.set_cons_succ]
            refine held_take (v := ?_) 12 rfl (by kernel_rfl) (by kernel_rfl) (by kernel_rfl) (fun _ _ _ h => h) (by rfl) ?_ (by assumption) ?_
            rotate_left
            · (intro w hSw; (try dsimp only at hSw); go_simp; try with_reducible rfl)
            try simp only [Act.put, List.setIfInBounds_toArray, List.set_cons_zero, List.set_cons_succ]
            refine held_take (v := ?_) 13 rfl (by kernel_rfl) (by kernel_rfl) (by kernel_rfl) (fun _ _ _ h => h) (by rfl) ?_ (by assumption) ?_
            rotate_left
            · (intro w hSw; (try dsimp only at hSw); go_simp; try with_reducible rfl)
            try simp only [Act.put, List.setIfInBounds_toArray, List.set_cons_zero, List.set_cons_succ]
            refine held_take (v := ?_) 14 rfl (by kernel_rfl) (by kernel_rfl) (by kernel_rfl) (fun _ _ _ h => h) (by rfl) ?_ (by assumption) ?_
            rotate_left
            · (intro w hSw; (try dsimp only at hSw); go_simp; try with_reducible rfl)
            try simp only [Act.put, List.setIfInBounds_toArray, List.set_cons_zero, List.set_cons_succ]
            refine held_take (v := ?_) 15 rfl (by kernel_rfl) (by kernel_rfl) (by kernel_rfl) (fun _ _ _ h => h) (by rfl) ?_ (by assumption) ?_
            rotate_left
            · (intro w hSw; (try dsimp only at hSw); go_simp; try with_reducible rfl)
            try simp only [Act.put, List.setIfInBounds_toArray, List.set_cons_zero, List.set_cons_succ]
            refine held_take (v := ?_) 16 rfl (by kernel_rfl) (by kernel_rfl) (by kernel_rfl) (fun _ _ _ h => h) (by rfl) ?_ (by assumption) ?_
            rotate_left
            · (intro w hSw; (try dsimp only at hSw); go_simp; try with_reducible rfl)
            try simp only [Act.put, List.setIfInBounds_toArray, List.set_cons_zero, List.set_cons_succ]
            refine held_take (v := ?_) 18 rfl (by kernel_rfl) (by kernel_rfl) (by kernel_rfl) (fun _ _ _ h => h) (by rfl) ?_ (by assumption) ?_
            rotate_left
            · (intro w hSw; (try dsimp only at hSw); go_simp; try with_reducible rfl)
            try simp only [Act.put, List.setIfInBounds_toArray, List.set_cons_zero, List.set_cons_succ]
            refine held_call 17 (by kernel_rfl) rfl (fun K hK => ?_)
            go_simp
            go_at_call 63; refine (rvalues_any B bsc bmc N BS BM back _ (HN.out.2.2.2.1.drew) (HN.out.2.2.2.2.drew) (by show B ≤ wr.heap.size; omega) HN.out.1 HN.out.2.1).mono ?_; rintro e w3 ⟨A3, d3, rfl, ho3, hb3d⟩; have hb3 : Below wr.heap.size wr w3 := undrew hb3d; clear hb3d; have hs3 := hb3.size
            try (go_wp2_with fail)
            refine hK.out _ _ ?_ (fun hHeld1 => ?_)
            · first | trivial | ((try dsimp only); (obtain ⟨p0, p1, p2, p3, p4, p5, p6, p7, p8, p9, p10, p11, p12⟩ := (HB.out.fresh hb3).cells13; exact ⟨p0, p1, p2, p3, p4, p5, p6, p7, p8, p9, p10, p11, p12⟩))
            clear hK K hHeld0
            try simp only [Act.put, List.setIfInBounds_toArray, List.set_cons_zero, List.set_cons_succ]
            refine held_call 19 (by kernel_rfl) rfl (fun K hK => ?_)
            go_simp
            go_at_call 61; refine (rmay_any B w3.heap.size ic d3 N _ A3 ins (Liv.vals back) ins.length _ _ _ _ _ _ _ _ _ _ _ _ w3 (H.out.1.i.below ((hbw.trans (hb3.mono (by omega))).mono hB)) (by omega) hil (Int.le_refl _) HN.out.1 (ho3.at_ HN.out.2.2.1) (Nat.le_refl _) (by omega)).mono ?_; rintro e w4 ⟨he, hb4⟩; have hs4 := hb4.size; obtain rfl : e = .returned (.bool false) := (by (rw [he, HVB.out]; rfl)); clear he
            try (go_wp2_with fail)
            refine hK.out _ _ ?_ (fun hHeld2 => ?_)
            · first | trivial | ((try dsimp only); (obtain ⟨p0, p1, p2, p3, p4, p5, p6, p7, p8, p9, p10, p11, p12⟩ := ((HB.out.fresh hb3).fresh hb4).cells13; exact ⟨p0, p1, p2, p3, p4, p5, p6, p7, p8, p9, p10, p11, p12⟩))
            clear hK K hHeld1
            try simp only [Act.put, List.setIfInBounds_toArray, List.set_cons_zero, List.set_cons_succ]
            refine held_take (v := ?_) 20 rfl (by kernel_rfl) (by kernel_rfl) (by kernel_rfl) (fun _ _ _ h => h) (by rfl) ?_ (by assumption) ?_
            rotate_left
            · (intro w hSw; (try dsimp only at hSw); go_simp; try with_reducible rfl)
            try simp only [Act.put, List.setIfInBounds_toArray, List.set_cons_zero, List.set_cons_succ]
            refine held_take (v := ?_) 21 rfl (by kernel_rfl) (by kernel_rfl) (by kernel_rfl) (fun _ _ _ h => h) (by rfl) ?_ (by assumption) ?_
            rotate_left
            · (intro w hSw; (try dsimp only at hSw); go_simp; try with_reducible rfl)
            try simp only [Act.put, List.setIfInBounds_toArray, List.set_cons_zero, List.set_cons_succ]
            refine wpAnyH_done (by kernel_rfl) ?_ _
            clear ho3
            go_wp2_with fail
            go_meet
            exact ⟨rfl, (hb3.trans (hb4.mono (by omega)))⟩
          | false =>
            have ht : tb = false := by rw [← HTB.out, hd5, hv2]; simp
            have HVB := Lib.hid hv2; clear hv2
            subst ht
            clear h5
            refine wp_region_held_drew (S := (fun w' => w'.cell? ⟨w.heap.size, 0, none⟩ = some (.int .i64 fn) ∧ w'.cell? ⟨w.heap.size, 1, none⟩ = some (.int .i64 at_) ∧ w'.cell? ⟨w.heap.size, 2, none⟩ = some (.int .i64 loop) ∧ w'.cell? ⟨w.heap.size, 3, none⟩ = some (.slice IA ins.length ic) ∧ w'.cell? ⟨w.heap.size, 4, none⟩ = some (.slice EA exits.length ec) ∧ w'.cell? ⟨w.heap.size, 5, none⟩ = some (.int .i64 turn.at_) ∧ w'.cell? ⟨w.heap.size, 6, none⟩ = some (.int .i64 turn.steps) ∧ w'.cell? ⟨w.heap.size, 7, none⟩ = some (.slice TS turn.sets.length tsc) ∧ w'.cell? ⟨w.heap.size, 8, none⟩ = some (.slice TM turn.makes.length tmc) ∧ w'.cell? ⟨w.heap.size, 9, none⟩ = some (.int .i64 back.at_) ∧ w'.cell? ⟨w.heap.size, 10, none⟩ = some (.int .i64 back.steps) ∧ w'.cell? ⟨w.heap.size, 11, none⟩ = some (.slice BS back.sets.length bsc) ∧ w'.cell? ⟨w.heap.size, 12, none⟩ = some (.slice BM back.makes.length bmc))) (by kernel_rfl) ?_ (fun hHeld0 => ?_)
            · first | trivial | ((try dsimp only); (obtain ⟨p0, p1, p2, p3, p4, p5, p6, p7, p8, p9, p10, p11, p12⟩ := (HB.out.drew).cells13; exact ⟨p0, p1, p2, p3, p4, p5, p6, p7, p8, p9, p10, p11, p12⟩))
            refine held_take (v := ?_) 0 rfl (by kernel_rfl) (by kernel_rfl) (by kernel_rfl) (fun _ _ _ h => h) (by rfl) ?_ (by assumption) ?_
            rotate_left
            · (intro w hSw; (try dsimp only at hSw); go_simp; try with_reducible rfl)
            try simp only [Act.put, List.setIfInBounds_toArray, List.set_cons_zero, List.set_cons_succ]
            refine held_take (v := ?_) 1 rfl (by kernel_rfl) (by kernel_rfl) (by kernel_rfl) (fun _ _ _ h => h) (by rfl) ?_ (by assumption) ?_
            rotate_left
            · (intro w hSw; (try dsimp only at hSw); go_simp; try with_reducible rfl)
            try simp only [Act.put, List.setIfInBounds_toArray, List.set_cons_zero, List.set_cons_succ]
            refine held_take (v := ?_) 2 rfl (by kernel_rfl) (by kernel_rfl) (by kernel_rfl) (fun _ _ _ h => h) (by rfl) ?_ (by assumption) ?_
            rotate_left
            · (intro w hSw; (try dsimp only at hSw); go_simp; try with_reducible rfl)
            try simp only [Act.put, List.setIfInBounds_toArray, List.set_cons_zero, List.set_cons_succ]
            refine held_take (v := ?_) 3 rfl (by kernel_rfl) (by kernel_rfl) (by kernel_rfl) (fun _ _ _ h => h) (by rfl) ?_ (by assumption) ?_
            rotate_left
            · (intro w hSw; (try dsimp only at hSw); go_simp; try with_reducible rfl)
            try simp only [Act.put, List.setIfInBounds_toArray, List.set_cons_zero, List.set_cons_succ]
            refine held_skip 4 rfl (by kernel_rfl) (by kernel_rfl) (by kernel_rfl) (fun _ _ _ h => h) (by rfl) (by assumption) ?_
            try simp only [Act.put, List.setIfInBounds_toArray, List.set_cons_zero, List.set_cons_succ]
            refine held_skip 5 rfl (by kernel_rfl) (by kernel_rfl) (by kernel_rfl) (fun _ _ _ h => h) (by rfl) (by assumption) ?_
            try simp only [Act.put, List.setIfInBounds_toArray, List.set_cons_zero, List.set_cons_succ]
            refine held_skip 6 rfl (by kernel_rfl) (by kernel_rfl) (by kernel_rfl) (fun _ _ _ h => h) (by rfl) (by assumption) ?_
            try simp only [Act.put, List.setIfInBounds_toArray, List.set_cons_zero, List.set_cons_succ]
            refine held_skip 7 rfl (by kernel_rfl) (by kernel_rfl) (by kernel_rfl) (fun _ _ _ h => h) (by rfl) (by assumption) ?_
            try simp only [Act.put, List.setIfInBounds_toArray, List.set_cons_zero, List.set_cons_succ]
            refine held_skip 8 rfl (by kernel_rfl) (by kernel_rfl) (by kernel_rfl) (fun _ _ _ h => h) (by rfl) (by assumption) ?_
            try simp only [Act.put, List.setIfInBounds_toArray, List.set_cons_zero, List.set_cons_succ]
            refine held_skip 9 rfl (by kernel_rfl) (by kernel_rfl) (by kernel_rfl) (fun _ _ _ h => h) (by rfl) (by assumption) ?_
            try simp only [Act.put, List.setIfInBounds_toArray, List.set_cons_zero, List.set_cons_succ]
            refine held_skip 10 rfl (by kernel_rfl) (by kernel_rfl) (by kernel_rfl) (fun _ _ _ h => h) (by rfl) (by assumption) ?_
            try simp only [Act.put, List.setIfInBounds_toArray, List.set_cons_zero, List.set_cons_succ]
            refine held_skip 11 rfl (by kernel_rfl) (by kernel_rfl) (by kernel_rfl) (fun _ _ _ h => h) (by rfl) (by assumption) ?_
            try simp only [Act.put, List.setIfInBounds_toArray, List.set_cons_zero, List.set_cons_succ]
            refine held_take (v := ?_) 12 rfl (by kernel_rfl) (by kernel_rfl) (by kernel_rfl) (fun _ _ _ h => h) (by rfl) ?_ (by assumption) ?_
            rotate_left
            · (intro w hSw; (try dsimp only at hSw); go_simp; try with_reducible rfl)
            try simp only [Act.put, List.setIfInBounds_toArray, List.set_cons_zero, List.set_cons_succ]
            refine held_take (v := ?_) 13 rfl (by kernel_rfl) (by kernel_rfl) (by kernel_rfl) (fun _ _ _ h => h) (by rfl) ?_ (by assumption) ?_
            rotate_left
            · (intro w hSw; (try dsimp only at hSw); go_simp; try with_reducible rfl)
            try simp only [Act.put, List.setIfInBounds_toArray, List.set_cons_zero, List.set_cons_succ]
            refine held_take (v := ?_) 14 rfl (by kernel_rfl) (by kernel_rfl) (by kernel_rfl) (fun _ _ _ h => h) (by rfl) ?_ (by assumption) ?_
            rotate_left
            · (intro w hSw; (try dsimp only at hSw); go_simp; try with_reducible rfl)
            try simp only [Act.put, List.setIfInBounds_toArray, List.set_cons_zero, List.set_cons_succ]
            refine held_take (v := ?_) 15 rfl (by kernel_rfl) (by kernel_rfl) (by kernel_rfl) (fun _ _ _ h => h) (by rfl) ?_ (by assumption) ?_
            rotate_left
            · (intro w hSw; (try dsimp only at hSw); go_simp; try with_reducible rfl)
            try simp only [Act.put, List.setIfInBounds_toArray, List.set_cons_zero, List.set_cons_succ]
            refine held_take (v := ?_) 16 rfl (by kernel_rfl) (by kernel_rfl) (by kernel_rfl) (fun _ _ _ h => h) (by rfl) ?_ (by assumption) ?_
            rotate_left
            · (intro w hSw; (try dsimp only at hSw); go_simp; try with_reducible rfl)
            try simp only [Act.put, List.setIfInBounds_toArray, List.set_cons_zero, List.set_cons_succ]
            refine held_take (v := ?_) 18 rfl (by kernel_rfl) (by kernel_rfl) (by kernel_rfl) (fun _ _ _ h => h) (by rfl) ?_ (by assumption) ?_
            rotate_left
            · (intro w hSw; (try dsimp only at hSw); go_simp; try with_reducible rfl)
            try simp only [Act.put, List.setIfInBounds_toArray, List.set_cons_zero, List.set_cons_succ]
            refine held_call 17 (by kernel_rfl) rfl (fun K hK => ?_)
            go_simp
            go_at_call 63; refine (rvalues_any B bsc bmc N BS BM back _ (HN.out.2.2.2.1.drew) (HN.out.2.2.2.2.drew) (by show B ≤ wr.heap.size; omega) HN.out.1 HN.out.2.1).mono ?_; rintro e w3 ⟨A3, d3, rfl, ho3, hb3d⟩; have hb3 : Below wr.heap.size wr w3 := undrew hb3d; clear hb3d; have hs3 := hb3.size
            try (go_wp2_with fail)
            refine hK.out _ _ ?_ (fun hHeld1 => ?_)
            · first | trivial | ((try dsimp only); (obtain ⟨p0, p1, p2, p3, p4, p5, p6, p7, p8, p9, p10, p11, p12⟩ := (HB.out.fresh hb3).cells13; exact ⟨p0, p1, p2, p3, p4, p5, p6, p7, p8, p9, p10, p11, p12⟩))
            clear hK K hHeld0
            try simp only [Act.put, List.setIfInBounds_toArray, List.set_cons_zero, List.set_cons_succ]
            refine held_call 19 (by kernel_rfl) rfl (fun K hK => ?_)
            go_simp
            go_at_call 61; refine (rmay_any B w3.heap.size ic d3 N _ A3 ins (Liv.vals back) ins.length _ _ _ _ _ _ _ _ _ _ _ _ w3 (H.out.1.i.below ((hbw.trans (hb3.mono (by omega))).mono hB)) (by omega) hil (Int.le_refl _) HN.out.1 (ho3.at_ HN.out.2.2.1) (Nat.le_refl _) (by omega)).mono ?_; rintro e w4 ⟨he, hb4⟩; have hs4 := hb4.size; obtain rfl : e = .returned (.bool true) := (by (rw [he, HVB.out]; rfl)); clear he
            try (go_wp2_with fail)
            refine hK.out _ _ ?_ (fun hHeld2 => ?_)
            · first | trivial | ((try dsimp only); (obtain ⟨p0, p1, p2, p3, p4, p5, p6, p7, p8, p9, p10, p11, p12⟩ := ((HB.out.fresh hb3).fresh hb4).cells13; exact ⟨p0, p1, p2, p3, p4, p5, p6, p7, p8, p9, p10, p11, p12⟩))
            clear hK K hHeld1
            try simp only [Act.put, List.setIfInBounds_toArray, List.set_cons_zero, List.set_cons_succ]
            refine held_take (v := ?_) 20 rfl (by kernel_rfl) (by kernel_rfl) (by kernel_rfl) (fun _ _ _ h => h) (by rfl) ?_ (by assumption) ?_
            rotate_left
            · (intro w hSw; (try dsimp only at hSw); go_simp; try with_reducible rfl)
            try simp only [Act.put, List.setIfInBounds_toArray, List.set_cons_zero, List.set_cons_succ]
            refine held_take (v := ?_) 21 rfl (by kernel_rfl) (by kernel_rfl) (by kernel_rfl) (fun _ _ _ h => h) (by rfl) ?_ (by assumption) ?_
            rotate_left
            · (intro w hSw; (try dsimp only at hSw); go_simp; try with_reducible rfl)
            try simp only [Act.put, List.setIfInBounds_toArray, List.set_cons_zero, List.set_cons_succ]
            refine wpAnyH_done (by kernel_rfl) ?_ _
            clear ho3
            go_wp2_with fail
            go_meet
            exact ⟨rfl, (hb3.trans (hb4.mono (by omega)))⟩
      case rest =>
        obtain ⟨rfl, hbc⟩ := hcut
        rename World => wc
        have hsc := hbc.size
        have hbwc : Below w.heap.size w wc := hbw.trans (hbc.mono (by omega))
        cases tb with
        | true =>
          have hq3 : q = 3 := by
            rw [HQ2.out]; unfold Liv.tailF
            have h9 := HTB.out
            rw [Bool.or_eq_true] at h9
            split
            · rfl
            · rename_i h8; rcases h9 with h9 | h9
              · exact absurd h9 h8
              · rw [h9]; rfl
          subst hq3
          go_wp2_with fail
          go_ret
          exact ⟨rfl, hbwc⟩
        | false =>
          have hq3 : q = if exits.any (fun x => (Liv.vals x).any (Liv.bad ins ins.length)) = true then 3 else if (Liv.large turn || Liv.large back || exits.any Liv.large) = true then 2 else 0 := by
            have h9 := HTB.out
            rw [Bool.or_eq_false_iff] at h9
            rw [HQ2.out]; unfold Liv.tailF; rw [if_neg (by rw [h9.1]; decide), h9.2, Bool.false_or]
          have HQ3 := Lib.hid hq3; clear hq3 HQ2 HTB
          have HBc := Lib.hid (HB.out.fresh hbc); clear HB
          have c4 := HBc.out.cell 4 (v := .slice EA exits.length ec) rfl
          have ltc : w.heap.size < wc.heap.size := by omega
          clear c2
          obtain ⟨wo, rfl⟩ : ∃ wo : World, wo = wr := ⟨_, rfl⟩
          go_wp2_with fail
          go_loopg [7, 107] (exits.length) (fun gj x7 iv wr => ∃ (j : Nat), j ≤ exits.length ∧ gj = exits.length - j ∧ iv = .int .i64 j ∧ Hid ((exits.take j).any (fun x => (Liv.vals x).any (Liv.bad ins ins.length)) = false) ∧ Below wc.heap.size wc wr)
          case atStart => exact ⟨0, Nat.zero_le _, rfl, rfl, by simp [Hid], Below.refl _ _⟩
          case round =>
            obtain ⟨j, hj, rfl, rfl, hnj, hbj⟩ := hrel
            have hsj := hbj.size
            have hbwj : Below w.heap.size w wr := hbwc.trans (hbj.mono (by omega))
            have HBj := Lib.hid (HBc.out.fresh hbj)
            by_cases hlj : j < exits.length
            · have hj0 : (0 : Int) ≤ (j : Int) := by omega
              have hj1 : (j : Int) < (exits.length : Int) := by omega
              obtain ⟨be, oe, ex, As, cs, Am, cm, rfl, hbE, hex, e0, e1, e2, e3, as_, -, am_, -, -⟩ := (H.out.1.e.below (hbwj.mono hB)).ex_ hlj
              obtain ⟨NX, hNX⟩ : ∃ NX, (Liv.vals ex).length = NX := ⟨_, rfl⟩
              have hvb := H.out.2.1 ex (List.mem_of_getElem? hex)
              rw [hNX] at hvb
              have hok := Liv.vals_ok as_ am_
              have hsn := any_snoc (fun x => (Liv.vals x).any (Liv.bad ins ins.length)) exits j ex hex
              rw [hnj.out, Bool.false_or] at hsn
              have hhit : (Liv.vals ex).any (Liv.bad ins ins.length) = true → exits.any (fun x => (Liv.vals x).any (Liv.bad ins ins.length)) = true := fun h => List.any_eq_true.2 ⟨ex, List.mem_of_getElem? hex, h⟩
              have HX := Lib.hid (And.intro as_ (And.intro am_ (And.intro hok (And.intro hNX (And.intro hvb (And.intro hsn hhit)))))); clear as_ am_ hok hNX hvb hsn hhit hex hnj
              have hbe : be < wr.heap.size := by omega
              go_wp2_with fail
              refine wp_world (fun V => Blk V w.heap.size 72 #[.int .i64 fn, .int .i64 at_, .int .i64 loop, .slice IA ins.length ic, .slice (some ⟨be, oe, none⟩) exits.length ec, .int .i64 turn.at_, .int .i64 turn.steps, .slice TS turn.sets.length tsc, .slice TM turn.makes.length tmc, .int .i64 back.at_, .int .i64 back.steps, .slice BS back.sets.length bsc, .slice BM back.makes.length bmc] ∧ Blk V wr.heap.size 31 #[.int .i64 ex.at_, .int .i64 ex.steps, .slice As ex.sets.length cs, .slice Am ex.makes.length cm] ∧ Below wr.heap.size wr V ∧ wr.heap.size + 1 ≤ V.heap.size) ⟨HBj.out.alloc _, Blk.new _ _ _, (Below.refl _ _).alloc (Nat.le_refl _) _, by simp⟩ ?_
              rintro V ⟨hTV, hXV, hbV, hsV⟩
              have HV := Lib.hid (And.intro hTV hXV); clear hTV hXV e0 e1 e2 e3
              have hbwV : Below w.heap.size w V := hbwj.trans (hbV.mono (by omega))
              have hNX60 : NX ≤ 9223372036854775807 := by have := HX.out.2.2.2.2.1; omega
              cases hv : (Liv.vals ex).any (Liv.bad ins ins.length) with
              | true =>
                have HVV := Lib.hid hv; clear hv
                refine wp_region_held_drew (S := (fun w' => w'.cell? ⟨w.heap.size, 0, none⟩ = some (.int .i64 fn) ∧ w'.cell? ⟨w.heap.size, 1, none⟩ = some (.int .i64 at_) ∧ w'.cell? ⟨w.heap.size, 2, none⟩ = some (.int .i64 loop) ∧ w'.cell? ⟨w.heap.size, 3, none⟩ = some (.slice IA ins.length ic) ∧ w'.cell? ⟨w.heap.size, 4, none⟩ = some (.slice (some ⟨be, oe, none⟩) exits.length ec) ∧ w'.cell? ⟨w.heap.size, 5, none⟩ = some (.int .i64 turn.at_) ∧ w'.cell? ⟨w.heap.size, 6, none⟩ = some (.int .i64 turn.steps) ∧ w'.cell? ⟨w.heap.size, 7, none⟩ = some (.slice TS turn.sets.length tsc) ∧ w'.cell? ⟨w.heap.size, 8, none⟩ = some (.slice TM turn.makes.length tmc) ∧ w'.cell? ⟨w.heap.size, 9, none⟩ = some (.int .i64 back.at_) ∧ w'.cell? ⟨w.heap.size, 10, none⟩ = some (.int .i64 back.steps) ∧ w'.cell? ⟨w.heap.size, 11, none⟩ = some (.slice BS back.sets.length bsc) ∧ w'.cell? ⟨w.heap.size, 12, none⟩ = some (.slice BM back.makes.length bmc) ∧ w'.cell? ⟨wr.heap.size, 0, none⟩ = some (.int .i64 ex.at_) ∧ w'.cell? ⟨wr.heap.size, 1, none⟩ = some (.int .i64 ex.steps) ∧ w'.cell? ⟨wr.heap.size, 2, none⟩ = some (.slice As ex.sets.length cs) ∧ w'.cell? ⟨wr.heap.size, 3, none⟩ = some (.slice Am ex.makes.length cm))) (by kernel_rfl) ?_ (fun hHeld0 => ?_)
                · first | trivial | ((try dsimp only); (obtain ⟨p0, p1, p2, p3, p4, p5, p6, p7, p8, p9, p10, p11, p12⟩ := (HV.out.1.drew).cells13; obtain ⟨q0, q1, q2, q3⟩ := (HV.out.2.drew).cells4; exact ⟨p0, p1, p2, p3, p4, p5, p6, p7, p8, p9, p10, p11, p12, q0, q1, q2, q3⟩))
                refine held_take (v := ?_) 0 rfl (by kernel_rfl) (by kernel_rfl) (by kernel_rfl) (fun _ _ _ h => h) (by rfl) ?_ (by assumption) ?_
                rotate_left
                · (intro w hSw; (try dsimp only at hSw); go_simp; try with_reducible rfl)
                try simp only [Act.put, List.setIfInBounds_toArray, List.set_cons_zero, List.set_cons_succ]
                refine held_take (v := ?_) 1 rfl (by kernel_rfl) (by kernel_rfl) (by kernel_rfl) (fun _ _ _ h => h) (by rfl) ?_ (by assumption) ?_
                rotate_left
                · (intro w hSw; (try dsimp only at hSw); go_simp; try with_reducible rfl)
                try simp only [Act.put, List.setIfInBounds_toArray, List.set_cons_zero, List.set_cons_succ]
                refine held_take (v := ?_) 3 rfl (by kernel_rfl) (by kernel_rfl) (by kernel_rfl) (fun _ _ _ h => h) (by rfl) ?_ (by assumption) ?_
                rotate_left
                · (intro w hSw; (try dsimp only at hSw); go_simp; try with_reducible rfl)
                try simp only [Act.put, List.setIfInBounds_toArray, List.set_cons_zero, List.set_cons_succ]
                refine held_call 2 (by kernel_rfl) rfl (fun K hK => ?_)
                go_simp
                go_at_call 63; refine (rvalues_any B cs cm NX As Am ex _ ((HX.out.1.below (hbV.mono (by omega))).drew) ((HX.out.2.1.below (hbV.mono (by omega))).drew) (by show B ≤ V.heap.size; omega) HX.out.2.2.2.1 HX.out.2.2.2.2.1).mono ?_; rintro e w1 ⟨A1, d1, rfl, ho1, hb1d⟩; have hb1 : Below V.heap.size V w1 := undrew hb1d; clear hb1d; have hs1 := hb1.size
                try (go_wp2_with fail)
                refine hK.out _ _ ?_ (fun hHeld1 => ?_)
                · first | trivial | ((try dsimp only); (obtain ⟨p0, p1, p2, p3, p4, p5, p6, p7, p8, p9, p10, p11, p12⟩ := (HV.out.1.fresh hb1).cells13; obtain ⟨q0, q1, q2, q3⟩ := (HV.out.2.fresh hb1).cells4; exact ⟨p0, p1, p2, p3, p4, p5, p6, p7, p8, p9, p10, p11, p12, q0, q1, q2, q3⟩))
                clear hK K hHeld0
                try simp only [Act.put, List.setIfInBounds_toArray, List.set_cons_zero, List.set_cons_succ]
                refine held_call 4 (by kernel_rfl) rfl (fun K hK => ?_)
                go_simp
                go_at_call 61; refine (rmay_any B w1.heap.size ic d1 NX _ A1 ins (Liv.vals ex) ins.length _ _ _ _ _ _ _ _ _ _ _ _ w1 (H.out.1.i.below ((hbwV.trans (hb1.mono (by omega))).mono hB)) (by omega) hil (Int.le_refl _) HX.out.2.2.2.1 (ho1.at_ HX.out.2.2.1) (Nat.le_refl _) (by omega)).mono ?_; rintro e w2 ⟨he, hb2⟩; have hs2 := hb2.size; obtain rfl : e = .returned (.bool false) := (by (rw [he, HVV.out]; rfl)); clear he
                try (go_wp2_with fail)
                refine hK.out _ _ ?_ (fun hHeld2 => ?_)
                · first | trivial | ((try dsimp only); (obtain ⟨p0, p1, p2, p3, p4, p5, p6, p7, p8, p9, p10, p11, p12⟩ := ((HV.out.1.fresh hb1).fresh hb2).cells13; obtain ⟨q0, q1, q2, q3⟩ := ((HV.out.2.fresh hb1).fresh hb2).cells4; exact ⟨p0, p1, p2, p3, p4, p5, p6, p7, p8, p9, p10, p11, p12, q0, q1, q2, q3⟩))
                clear hK K hHeld1
                try simp only [Act.put, List.setIfInBounds_toArray, List.set_cons_zero, List.set_cons_succ]
                refine held_take (v := ?_) 5 rfl (by kernel_rfl) (by kernel_rfl) (by kernel_rfl) (fun _ _ _ h => h) (by rfl) ?_ (by assumption) ?_
                rotate_left
                · (intro w hSw; (try dsimp only at hSw); go_simp; try with_reducible rfl)
                try simp only [Act.put, List.setIfInBounds_toArray, List.set_cons_zero, List.set_cons_succ]
                refine wpAnyH_done (by kernel_rfl) ?_ _
                clear ho1
                have hq4 : q = 3 := by rw [HQ3.out, if_pos (HX.out.2.2.2.2.2.2 HVV.out)]
                subst hq4
                go_wp2_with fail
                go_ret
                exact ⟨rfl, (hbwV.trans (hb1.mono (by omega))).trans (hb2.mono (by omega))⟩
              | false =>
                have HVV := Lib.hid hv; clear hv
                refine wp_region_held_drew (S := (fun w' => w'.cell? ⟨w.heap.size, 0, none⟩ = some (.int .i64 fn) ∧ w'.cell? ⟨w.heap.size, 1, none⟩ = some (.int .i64 at_) ∧ w'.cell? ⟨w.heap.size, 2, none⟩ = some (.int .i64 loop) ∧ w'.cell? ⟨w.heap.size, 3, none⟩ = some (.slice IA ins.length ic) ∧ w'.cell? ⟨w.heap.size, 4, none⟩ = some (.slice (some ⟨be, oe, none⟩) exits.length ec) ∧ w'.cell? ⟨w.heap.size, 5, none⟩ = some (.int .i64 turn.at_) ∧ w'.cell? ⟨w.heap.size, 6, none⟩ = some (.int .i64 turn.steps) ∧ w'.cell? ⟨w.heap.size, 7, none⟩ = some (.slice TS turn.sets.length tsc) ∧ w'.cell? ⟨w.heap.size, 8, none⟩ = some (.slice TM turn.makes.length tmc) ∧ w'.cell? ⟨w.heap.size, 9, none⟩ = some (.int .i64 back.at_) ∧ w'.cell? ⟨w.heap.size, 10, none⟩ = some (.int .i64 back.steps) ∧ w'.cell? ⟨w.heap.size, 11, none⟩ = some (.slice BS back.sets.length bsc) ∧ w'.cell? ⟨w.heap.size, 12, none⟩ = some (.slice BM back.makes.length bmc) ∧ w'.cell? ⟨wr.heap.size, 0, none⟩ = some (.int .i64 ex.at_) ∧ w'.cell? ⟨wr.heap.size, 1, none⟩ = some (.int .i64 ex.steps) ∧ w'.cell? ⟨wr.heap.size, 2, none⟩ = some (.slice As ex.sets.length cs) ∧ w'.cell? ⟨wr.heap.size, 3, none⟩ = some (.slice Am ex.makes.length cm))) (by kernel_rfl) ?_ (fun hHeld0 => ?_)
                · first | trivial | ((try dsimp only); (obtain ⟨p0, p1, p2, p3, p4, p5, p6, p7, p8, p9, p10, p11, p12⟩ := (HV.out.1.drew).cells13; obtain ⟨q0, q1, q2, q3⟩ := (HV.out.2.drew).cells4; exact ⟨p0, p1, p2, p3, p4, p5, p6, p7, p8, p9, p10, p11, p12, q0, q1, q2, q3⟩))
                refine held_take (v := ?_) 0 rfl (by kernel_rfl) (by kernel_rfl) (by kernel_rfl) (fun _ _ _ h => h) (by rfl) ?_ (by assumption) ?_
                rotate_left
                · (intro w hSw; (try dsimp only at hSw); go_simp; try with_reducible rfl)
                try simp only [Act.put, List.setIfInBounds_toArray, List.set_cons_zero, List.set_cons_succ]
                refine held_take (v := ?_) 1 rfl (by kernel_rfl) (by kernel_rfl) (by kernel_rfl) (fun _ _ _ h => h) (by rfl) ?_ (by assumption) ?_
                rotate_left
                · (intro w hSw; (try dsimp only at hSw); go_simp; try with_reducible rfl)
                try simp only [Act.put, List.setIfInBounds_toArray, List.set_cons_zero, List.set_cons_succ]
                refine held_take (v := ?_) 3 rfl (by kernel_rfl) (by kernel_rfl) (by kernel_rfl) (fun _ _ _ h => h) (by rfl) ?_ (by assumption) ?_
                rotate_left
                · (intro w hSw; (try dsimp only at hSw); go_simp; try with_reducible rfl)
                try simp only [Act.put, List.setIfInBounds_toArray, List.set_cons_zero, List.set_cons_succ]
                refine held_call 2 (by kernel_rfl) rfl (fun K hK => ?_)
                go_simp
                go_at_call 63; refine (rvalues_any B cs cm NX As Am ex _ ((HX.out.1.below (hbV.mono (by omega))).drew) ((HX.out.2.1.below (hbV.mono (by omega))).drew) (by show B ≤ V.heap.size; omega) HX.out.2.2.2.1 HX.out.2.2.2.2.1).mono ?_; rintro e w1 ⟨A1, d1, rfl, ho1, hb1d⟩; have hb1 : Below V.heap.size V w1 := undrew hb1d; clear hb1d; have hs1 := hb1.size
                try (go_wp2_with fail)
                refine hK.out _ _ ?_ (fun hHeld1 => ?_)
                · first | trivial | ((try dsimp only); (obtain ⟨p0, p1, p2, p3, p4, p5, p6, p7, p8, p9, p10, p11, p12⟩ := (HV.out.1.fresh hb1).cells13; obtain ⟨q0, q1, q2, q3⟩ := (HV.out.2.fresh hb1).cells4; exact ⟨p0, p1, p2, p3, p4, p5, p6, p7, p8, p9, p10, p11, p12, q0, q1, q2, q3⟩))
                clear hK K hHeld0
                try simp only [Act.put, List.setIfInBounds_toArray, List.set_cons_zero, List.set_cons_succ]
                refine held_call 4 (by kernel_rfl) rfl (fun K hK => ?_)
                go_simp
                go_at_call 61; refine (rmay_any B w1.heap.size ic d1 NX _ A1 ins (Liv.vals ex) ins.length _ _ _ _ _ _ _ _ _ _ _ _ w1 (H.out.1.i.below ((hbwV.trans (hb1.mono (by omega))).mono hB)) (by omega) hil (Int.le_refl _) HX.out.2.2.2.1 (ho1.at_ HX.out.2.2.1) (Nat.le_refl _) (by omega)).mono ?_; rintro e w2 ⟨he, hb2⟩; have hs2 := hb2.size; obtain rfl : e = .returned (.bool true) := (by (rw [he, HVV.out]; rfl)); clear he
                try (go_wp2_with fail)
                refine hK.out _ _ ?_ (fun hHeld2 => ?_)
                · first | trivial | ((try dsimp only); (obtain ⟨p0, p1, p2, p3, p4, p5, p6, p7, p8, p9, p10, p11, p12⟩ := ((HV.out.1.fresh hb1).fresh hb2).cells13; obtain ⟨q0, q1, q2, q3⟩ := ((HV.out.2.fresh hb1).fresh hb2).cells4; exact ⟨p0, p1, p2, p3, p4, p5, p6, p7, p8, p9, p10, p11, p12, q0, q1, q2, q3⟩))
                clear hK K hHeld1
                try simp only [Act.put, List.setIfInBounds_toArray, List.set_cons_zero, List.set_cons_succ]
                refine held_take (v := ?_) 5 rfl (by kernel_rfl) (by kernel_rfl) (by kernel_rfl) (fun _ _ _ h => h) (by rfl) ?_ (by assumption) ?_
                rotate_left
                · (intro w hSw; (try dsimp only at hSw); go_simp; try with_reducible rfl)
                try simp only [Act.put, List.setIfInBounds_toArray, List.set_cons_zero, List.set_cons_succ]
                refine wpAnyH_done (by kernel_rfl) ?_ _
                clear ho1
                have hsn2 := HX.out.2.2.2.2.2.1
                rw [HVV.out] at hsn2
                have HS2 := Lib.hid hsn2; clear hsn2
                go_wp2_with fail
                go_roundg (exits.length - (j + 1))
                case measure => omega
                case rel => exact ⟨j + 1, by omega, rfl, by go_num, HS2.out, ((hbj.trans (hbV.mono (by omega))).trans (hb1.mono (by omega))).trans (hb2.mono (by omega))⟩
            · have hq4 : q = if (Liv.large turn || Liv.large back || exits.any Liv.large) = true then 2 else 0 := by
                have h5 := hnj.out
                rw [List.take_of_length_le (by omega)] at h5
                rw [HQ3.out, if_neg (by rw [h5]; decide)]
              have HQ4 := Lib.hid hq4; clear hq4 HQ3 hnj c4
              have hTc := H.out.1.below (hbwj.mono hB)
              obtain ⟨p0, p1, p2, p3, p4, p5, p6, p7, p8, p9, p10, p11, p12⟩ := HBj.out.cells13
              obtain ⟨i0, hi, hz0, hz1, hz2⟩ := info_parts infoTExit
              obtain ⟨rs, hrl, hra, hrr⟩ := At.raws (n := 4) rfl hTc.e ex_one
              have hex : Exs wr B rs exits := ⟨hrl, hrr⟩
              have hrb : Exs wr B [exRaw back BS bsc BM bmc] [back] := Exs.one hTc.b
              have hrt : Exs wr B [exRaw turn TS tsc TM tmc] [turn] := Exs.one hTc.t
              have hlit := own_lit wr wr.heap.size wr.heap.size 2 31 #[.int .i64 turn.at_, .int .i64 turn.steps, .slice TS turn.sets.length tsc, .slice TM turn.makes.length tmc, .int .i64 back.at_, .int .i64 back.steps, .slice BS back.sets.length bsc, .slice BM back.makes.length bmc] ([exRaw turn TS tsc TM tmc] ++ [exRaw back BS bsc BM bmc]) rfl rfl (Nat.le_refl _) rfl (by simp [maxLen])
              have hra2 := hra.alloc (by omega) (.cells #[.int .i64 turn.at_, .int .i64 turn.steps, .slice TS turn.sets.length tsc, .slice TM turn.makes.length tmc, .int .i64 back.at_, .int .i64 back.steps, .slice BS back.sets.length bsc, .slice BM back.makes.length bmc] 31)
              have HE := Lib.hid (And.intro hlit (And.intro hra2 (And.intro ((hrt.app hrb).app hex) hrl))); clear hlit hra hra2 hrb hex hrt hrl hrr hTc
              have ltj : w.heap.size < wr.heap.size := by omega
              obtain ⟨wp, rfl⟩ : ∃ wp : World, wp = wr := ⟨_, rfl⟩
              go_wp2_with (at_builtin; go_must (refine wpList_app (α := Raw 4) (n := 2) (m := exits.length) (B := B) (r := rs) rfl (.tmp 122) (.tmp 124) _ rfl wp.heap.size 31 i0 _ 64 Try.underlying70 hi hz0 hz1 hz2 rfl (by decide) raw_one (by rfl) rfl HE.out.1 (by rfl) HE.out.2.1 HE.out.2.2.2 (by omega) (by simp only [maxLen]; omega) (by simp) ?_))
              intro A4 c4 w4 hown4 hgr4 hat4
              have hb4 : Below wp.heap.size wp w4 := ((Below.refl _ _).alloc (Nat.le_refl _) _).grown hgr4 (by simp) (fun g hg => by simp [rowOf] at hg; omega)
              have hs4 := hb4.size
              have hbw4 := hbwj.trans (hb4.mono (by omega))
              have hends4 := HE.out.2.2.1.below (hb4.mono (by omega))
              have hown4r : Own w4 wp.heap.size 31 A4 c4 (([exRaw turn TS tsc TM tmc] ++ [exRaw back BS bsc BM bmc]) ++ rs) := by simpa using hown4
              have hat : At w4 w4.heap.size A4 (([turn] ++ [back]) ++ exits) := hends4.at_ (by omega) hown4r
              have hlen : (([turn] ++ [back]) ++ exits).length = 2 + exits.length := by rw [List.length_append]; rfl
              have hall : ∀ x ∈ ([turn] ++ [back]) ++ exits, (Liv.vals x).length * 8 ≤ 140737488355328 := by
                intro x hx; simp at hx; rcases hx with rfl | rfl | hx
                · exact H.out.2.2.1
                · exact H.out.2.2.2
                · exact H.out.2.1 x hx
              have hbb : (Liv.large turn || Liv.large back || exits.any Liv.large) = (([turn] ++ [back]) ++ exits).any Liv.large := by simp [Bool.or_assoc]
              rw [hbb] at HQ4
              have H4 := Lib.hid (And.intro hat (And.intro hlen hall)); clear hat hlen hall hown4 hown4r hgr4 hat4 hends4 hbb p0 p1 p2 p3 p4 p5 p6 p7 p8 p9 p10 p11 p12
              obtain ⟨l4, hl4⟩ : ∃ l4, ([turn] ++ [back]) ++ exits = l4 := ⟨_, rfl⟩
              rw [hl4] at H4 HQ4
              clear hl4
              go_wp2_with fail
              go_loopg [9, 127] (2 + exits.length) (fun gj x9 iv wr => ∃ (j : Nat), j ≤ 2 + exits.length ∧ gj = 2 + exits.length - j ∧ iv = .int .i64 j ∧ Hid ((l4.take j).any Liv.large = false) ∧ Below w4.heap.size w4 wr)
              case atStart => exact ⟨0, Nat.zero_le _, rfl, rfl, by simp [Hid], Below.refl _ _⟩
              case round =>
                obtain ⟨j, hj, rfl, rfl, hnj, hbj⟩ := hrel
                have hsj := hbj.size
                have hbwj : Below w.heap.size w wr := hbw4.trans (hbj.mono (by omega))
                by_cases hlj : j < 2 + exits.length
                · have hj0 : (0 : Int) ≤ (j : Int) := by omega
                  have hj1 : (j : Int) < (2 + exits.length : Nat) := by omega
                  have hj1' : (j : Int) < 2 + (exits.length : Int) := by omega
                  obtain ⟨be, oe, ex, As, cs, Am, cm, rfl, hbE, hex, e0, e1, e2, e3, as_, qs, am_, qm, -⟩ := (H4.out.1.below hbj).ex_ (by rw [H4.out.2.1]; omega : j < l4.length)
                  have hvb := H4.out.2.2 ex (List.mem_of_getElem? hex)
                  have hvs := Liv.vals_sets ex
                  have hvm := Liv.vals_makes ex
                  have hsn := any_snoc Liv.large l4 j ex hex
                  rw [hnj.out, Bool.false_or] at hsn
                  have hhit : Liv.large ex = true → l4.any Liv.large = true := fun h => List.any_eq_true.2 ⟨ex, List.mem_of_getElem? hex, h⟩
                  have HX := Lib.hid (And.intro as_ (And.intro am_ (And.intro hsn hhit))); clear as_ am_ hsn hhit hex hnj qs qm
                  have hbe : be < wr.heap.size := by omega
                  go_wp2_with fail
                  refine calls_world (fun V => Below wr.heap.size wr V) ((Below.refl _ _).alloc (Nat.le_refl _) _) ?_
                  intro V hbV
                  have hsV := hbV.size
                  clear e0 e1 e2 e3
                  refine (rlarge_any w4.heap.size cs cm As Am ex V (HX.out.2.1.below (hbV.mono (by omega))) (by omega) (by omega) (by omega)).mono ?_
                  rintro e w5 ⟨rfl, hb5⟩
                  cases hv : Liv.large ex with
                  | true =>
                    have hq5 : q = 2 := by rw [HQ4.out, if_pos (HX.out.2.2.2 hv)]
                    subst hq5
                    go_wp2_with fail
                    go_ret
                    exact ⟨rfl, (hbwj.trans (hbV.mono (by omega))).trans (hb5.mono (by omega))⟩
                  | false =>
                    have hsn2 := HX.out.2.2.1
                    rw [hv] at hsn2
                    have HS2 := Lib.hid hsn2; clear hsn2 hv
                    go_wp2_with fail
                    go_roundg (2 + exits.length - (j + 1))
                    case measure => omega
                    case rel => exact ⟨j + 1, by omega, rfl, by go_num, HS2.out, (hbj.trans (hbV.mono (by omega))).trans (hb5.mono (by omega))⟩
                · have hq5 : q = 0 := by
                    have h5 := hnj.out
                    rw [List.take_of_length_le (by rw [H4.out.2.1]; omega)] at h5
                    rw [HQ4.out, if_neg (by rw [h5]; decide)]
                  subst hq5
                  clear hnj
                  have hj9 : ¬ (j : Int) < 2 + (exits.length : Int) := by omega
                  go_wp2_with fail
                  go_ret
                  exact ⟨rfl, hbwj⟩

end Go.Proofs.Ytljdnadejmkaeaa
