/- live.Check: what is wrong with a trace. -/
import Derived.Test.YtljdnadejmkaeaaLive13
import Derived.Deep.DeepCutAuto
namespace Go.Proofs.Ytljdnadejmkaeaa
open Go.RowKit

attribute [local go_sem ↓] Go.wp_at_zero Go.wp_at_succ

theorem infoTExit : (Try.prog.info? 31).map (fun i => (i.zero, i.size, i.bytes)) = some (some (.agg #[.int .i64 0, .int .i64 0, .slice none 0 0, .slice none 0 0]), 4, 64) := by kernel_rfl

/-- all that a trace's reading gives -/
structure TrAt (w : World) (B : Nat) (ins : List TI) (exits : List Ex) (turn back : Ex) (IA EA : Option Addr) (TS : Option Addr) (tsc : Nat) (TM : Option Addr) (tmc : Nat) (BS : Option Addr) (bsc : Nat) (BM : Option Addr) (bmc : Nat) : Prop where
  i : At w B IA ins
  e : At w B EA exits
  t : Enc.rd w B (exC turn TS tsc TM tmc) turn
  b : Enc.rd w B (exC back BS bsc BM bmc) back
theorem TrAt.below {w w' : World} {B : Nat} {ins : List TI} {exits : List Ex} {turn back : Ex} {IA EA TS TM BS BM : Option Addr} {tsc tmc bsc bmc : Nat} (h : TrAt w B ins exits turn back IA EA TS tsc TM tmc BS bsc BM bmc) (hb : Below B w w') : TrAt w' B ins exits turn back IA EA TS tsc TM tmc BS bsc BM bmc :=
  ⟨h.i.below hb, h.e.below hb, Enc.below h.t hb, Enc.below h.b hb⟩

theorem containsFuncEx_n (A : Option Addr) (c B g n : Nat) (lb : Array Value) (p : Ex → Bool) (l : List Ex) (w : World) (hn : l.length = n) (h : At w B A l) (hB : B ≤ w.heap.size) (hl : n ≤ 9223372036854775807)
    (eg : ∀ args w, (callFunc g args).run Try.prog w = .ok (.enter g args) w) (hp : PredE Try.prog g lb p l B w) :
    Calls Try.prog 71 #[.slice A n c, .func (.func g) #[] lb] w fun e w' => e = .returned (.bool (l.any p)) ∧ Below w.heap.size w w' := by
  subst hn; exact containsFuncEx_any A c B g lb p l w h hB hl eg hp

/-- an exit's cells as a raw row -/
def exRaw (x : Ex) (SA : Option Addr) (sc : Nat) (MA : Option Addr) (mc : Nat) : Raw 4 := ⟨exC x SA sc MA mc, rfl, by intro u hu; simp [exC] at hu; rcases hu with rfl | rfl | rfl | rfl <;> rfl⟩
/-- raw rows that read as exits -/
def Exs (w : World) (B : Nat) (rs : List (Raw 4)) (xs : List Ex) : Prop := rs.length = xs.length ∧ ∀ (i : Nat) (r : Raw 4) (x : Ex), rs[i]? = some r → xs[i]? = some x → Enc.rd w B r.cs x
theorem Exs.below {w w' : World} {B : Nat} {rs : List (Raw 4)} {xs : List Ex} (h : Exs w B rs xs) (hb : Below B w w') : Exs w' B rs xs := ⟨h.1, fun i r x hr hx => Enc.below (h.2 i r x hr hx) hb⟩
theorem Exs.app {w : World} {B : Nat} {rs rs' : List (Raw 4)} {xs xs' : List Ex} (h : Exs w B rs xs) (h' : Exs w B rs' xs') : Exs w B (rs ++ rs') (xs ++ xs') := by
  refine ⟨by rw [List.length_append, List.length_append, h.1, h'.1], fun i r x hr hx => ?_⟩
  by_cases hi : i < rs.length
  · rw [List.getElem?_append_left hi] at hr
    rw [List.getElem?_append_left (by rw [← h.1]; exact hi)] at hx
    exact h.2 i r x hr hx
  · rw [List.getElem?_append_right (by omega)] at hr
    rw [List.getElem?_append_right (by rw [← h.1]; omega), ← h.1] at hx
    exact h'.2 _ r x hr hx
theorem Exs.one {w : World} {B : Nat} {r : Raw 4} {x : Ex} (h : Enc.rd w B r.cs x) : Exs w B [r] [x] := ⟨rfl, fun i r' x' hr hx => by
  cases i with
  | zero => simp at hr hx; subst hr hx; exact h
  | succ i => simp at hr⟩
theorem Exs.at_ {w : World} {B : Nat} {A : Option Addr} {rs : List (Raw 4)} {xs : List Ex} (h : Exs w B rs xs) (hB : B ≤ w.heap.size) {base c : Nat} {e : TypeId} (ho : Own w base e A c rs) : At w w.heap.size A xs :=
  at_unraw rfl (ho.at_ (fun _ _ => trivial)) h.1 (fun i r x hr hx => Enc.more (h.2 i r x hr hx) hB)

set_option maxHeartbeats 1600000 in
set_option maxRecDepth 100000 in
theorem lcheck_any (B ic ec tsc tmc bsc bmc : Nat) (IA EA TS TM BS BM : Option Addr) (fn at_ loop : Int) (ins : List TI) (exits : List Ex) (turn back : Ex) (w : World) (h : TrAt w B ins exits turn back IA EA TS tsc TM tmc BS bsc BM bmc) (hB : B ≤ w.heap.size)
    (hil : ins.length ≤ 9223372036854775807) (hel : exits.length ≤ 9223372036854775807) (hf : ∀ y ∈ exits, (Liv.vals y).length * 8 ≤ 140737488355328) (hft : (Liv.vals turn).length * 8 ≤ 140737488355328) (hfb : (Liv.vals back).length * 8 ≤ 140737488355328) :
    Calls Try.prog 31 #[.agg #[.int .i64 fn, .int .i64 at_, .int .i64 loop, .slice IA ins.length ic, .slice EA exits.length ec, .int .i64 turn.at_, .int .i64 turn.steps, .slice TS turn.sets.length tsc, .slice TM turn.makes.length tmc, .int .i64 back.at_, .int .i64 back.steps, .slice BS back.sets.length bsc, .slice BM back.makes.length bmc]] w fun e w' => e = .returned (.int .i64 (Liv.fault ins exits turn back loop)) ∧ Below w.heap.size w w' := by
  have H := Lib.hid (And.intro h (And.intro hf (And.intro hft hfb))); clear h hf hft hfb
  obtain ⟨q, hq⟩ : ∃ q, Liv.fault ins exits turn back loop = q := ⟨_, rfl⟩
  rw [hq]
  have HQ0 := Lib.hid hq; clear hq
  by_cases h1 : 300 < ins.length
  · have hq : q = 2 := by rw [← HQ0.out]; unfold Liv.fault; rw [if_pos (.inl h1)]
    subst hq
    have h1' : (300 : Int) < (ins.length : Int) := by omega
    go_enter Try.func31, Try.ntmps31
    go_wp2_with fail
    go_ret
    exact ⟨rfl, ((Below.refl _ _).alloc (Nat.le_refl _) _).alloc (by simp) _⟩
  have h1' : ¬ (300 : Int) < (ins.length : Int) := by omega
  by_cases h2 : 200 < exits.length
  · have hq : q = 2 := by rw [← HQ0.out]; unfold Liv.fault; rw [if_pos (.inr h2)]
    subst hq
    have h2' : (200 : Int) < (exits.length : Int) := by omega
    go_enter Try.func31, Try.ntmps31
    go_wp2_with fail
    go_ret
    exact ⟨rfl, ((Below.refl _ _).alloc (Nat.le_refl _) _).alloc (by simp) _⟩
  have h2' : ¬ (200 : Int) < (exits.length : Int) := by omega
  have hn12 : ¬ (300 < ins.length ∨ 200 < exits.length) := by omega
  by_cases h3 : loop < 0
  · have hq : q = 3 := by rw [← HQ0.out]; unfold Liv.fault; rw [if_neg hn12, if_pos (.inl h3)]
    subst hq
    go_enter Try.func31, Try.ntmps31
    go_wp2_with fail
    go_ret
    exact ⟨rfl, ((Below.refl _ _).alloc (Nat.le_refl _) _).alloc (by simp) _⟩
  by_cases h4 : (ins.length : Int) < loop
  · have hq : q = 3 := by rw [← HQ0.out]; unfold Liv.fault; rw [if_neg hn12, if_pos (.inr h4)]
    subst hq
    go_enter Try.func31, Try.ntmps31
    go_wp2_with fail
    go_ret
    exact ⟨rfl, ((Below.refl _ _).alloc (Nat.le_refl _) _).alloc (by simp) _⟩
  have hq : q = if Liv.fst (Liv.ones ins exits) ≠ 0 then Liv.fst (Liv.ones ins exits) else Liv.tailF ins exits turn back loop := by
    rw [← HQ0.out]; unfold Liv.fault; rw [if_neg hn12, if_neg (by omega)]
  have HQ := Lib.hid hq; clear hq HQ0 hn12
  go_enter Try.func31, Try.ntmps31
  go_wp2_with fail
  refine wp_world (fun W => Blk W w.heap.size 72 #[.int .i64 fn, .int .i64 at_, .int .i64 loop, .slice IA ins.length ic, .slice EA exits.length ec, .int .i64 turn.at_, .int .i64 turn.steps, .slice TS turn.sets.length tsc, .slice TM turn.makes.length tmc, .int .i64 back.at_, .int .i64 back.steps, .slice BS back.sets.length bsc, .slice BM back.makes.length bmc] ∧ Blk W (w.heap.size + 1) 3 #[.int .i64 ins.length] ∧ Below w.heap.size w W ∧ w.heap.size + 2 ≤ W.heap.size) ⟨(Blk.new _ _ _).alloc _, Blk.at_ _ _ _ (by simp), ((Below.refl _ _).alloc (Nat.le_refl _) _).alloc (by simp) _, by simp⟩ ?_
  rintro W ⟨hT, hN, hb0, hs0⟩
  have HTN := Lib.hid (And.intro hT hN); clear hT hN
  go_loopg [30] (ins.length) (fun gk iv wr => ∃ (k : Nat), k ≤ ins.length ∧ gk = ins.length - k ∧ iv = .int .i64 k ∧ Hid (((Liv.ones ins exits).take k).any (fun e => e != 0) = false) ∧ Below (w.heap.size + 2) W wr ∧ w.heap.size + 2 ≤ wr.heap.size)
  case atStart => exact ⟨0, Nat.zero_le _, rfl, rfl, by simp [Hid], Below.refl _ _, hs0⟩
  case round =>
    obtain ⟨k, hk, rfl, rfl, hno, hbl, hsz⟩ := hrel
    have hbw : Below w.heap.size w wr := hb0.trans (hbl.mono (by omega))
    have hTr : Blk wr w.heap.size 72 #[.int .i64 fn, .int .i64 at_, .int .i64 loop, .slice IA ins.length ic, .slice EA exits.length ec, .int .i64 turn.at_, .int .i64 turn.steps, .slice TS turn.sets.length tsc, .slice TM turn.makes.length tmc, .int .i64 back.at_, .int .i64 back.steps, .slice BS back.sets.length bsc, .slice BM back.makes.length bmc] := (hbl.block _ (by omega)).trans HTN.out.1
    have hNr : Blk wr (w.heap.size + 1) 3 #[.int .i64 ins.length] := (hbl.block _ (by omega)).trans HTN.out.2
    have HB := Lib.hid (And.intro hTr hNr); clear hTr hNr
    have ltr : w.heap.size < wr.heap.size := by omega
    by_cases hlt : k < ins.length
    · obtain ⟨x, hx⟩ : ∃ x, ins[k]? = some x := ⟨_, List.getElem?_eq_getElem hlt⟩
      obtain ⟨p0, p1, p2, p3, p4, p5, p6, p7, p8, p9, p10, p11, p12⟩ := HB.out.1.cells13
      have hk0 : (0 : Int) ≤ (k : Int) := by omega
      have hk1 : (k : Int) < (ins.length : Int) := by omega
      have hone := lone_any B ic ec IA EA ins exits k x (.int .i64 fn) (.int .i64 at_) (.int .i64 loop) (.int .i64 turn.at_) (.int .i64 turn.steps) (.slice TS turn.sets.length tsc) (.slice TM turn.makes.length tmc) (.int .i64 back.at_) (.int .i64 back.steps) (.slice BS back.sets.length bsc) (.slice BM back.makes.length bmc) wr hx (H.out.1.i.below (hbw.mono hB)) (H.out.1.e.below (hbw.mono hB)) (by omega) (by omega) (by omega) H.out.2.1
      obtain ⟨r, hr⟩ : ∃ r, Liv.oneF ins exits k x = r := ⟨_, rfl⟩
      have hg := Liv.ones_get ins exits k x hx
      rw [hr] at hg hone
      have hsn := any_snoc (fun e : Int => e != 0) _ k r hg
      rw [hno.out, Bool.false_or] at hsn
      have HG := Lib.hid (And.intro hg (And.intro hsn hno.out)); clear hg hsn hr hx hno
      have HO := Lib.hid hone; clear hone
      go_wp2_with fail
      refine HO.out.mono ?_
      rintro e w1 ⟨rfl, hb1⟩
      clear p0 p1 p2 p3 p4 p5 p6 p7 p8 p9 p10 p11 p12
      by_cases hr0 : r = 0
      · subst hr0
        go_wp2_with fail
        go_roundg (ins.length - (k + 1))
        case measure => omega
        case rel => exact ⟨k + 1, by omega, rfl, by go_num, by unfold Hid; rw [HG.out.2.1]; rfl, hbl.trans (hb1.mono (by omega)), by have := hb1.size; omega⟩
      · have hne : (r != 0) = true := by simp [hr0]
        have hqr : q = r := by
          have hf := Liv.fst_hit _ k r HG.out.1 hr0 HG.out.2.2
          rw [HQ.out, hf, if_pos hr0]
        have HR := Lib.hid hqr; clear hqr hr0
        go_wp2_with fail
        go_ret
        exact ⟨by rw [HR.out]; rfl, hbw.trans (hb1.mono (by omega))⟩
    · have hq2 : q = Liv.tailF ins exits turn back loop := by
        have h5 := hno.out
        rw [List.take_of_length_le (by rw [Liv.ones_length]; omega)] at h5
        have hf := Liv.fst_no _ h5
        rw [HQ.out, hf]; simp
      have HQ2 := Lib.hid hq2; clear hq2 hno HQ
      have hBr := H.out.1.below (hbw.mono hB)
      obtain ⟨hts, htm, -, -⟩ := rd_ex hBr.t
      have htok := Liv.vals_ok hts htm
      obtain ⟨N, hN⟩ : ∃ N, (Liv.vals turn).length = N := ⟨_, rfl⟩
      have htb := H.out.2.2.1
      rw [hN] at htb
      have HN := Lib.hid (And.intro hN (And.intro htb htok)); clear hN htb htok
      have HA := Lib.hid (And.intro hts (And.intro htm (And.intro hBr.i hBr))); clear hts htm hBr
      have c2 := HB.out.1.cell 2 (v := .int .i64 loop) rfl
      obtain ⟨tb, htb⟩ : ∃ tb, (decide (0 < loop) && (Liv.vals turn).any (Liv.bad ins loop)) = tb := ⟨_, rfl⟩
      have HTB := Lib.hid htb; clear htb
      go_wp2_with fail
      go_cut [52] (fun ov W2 => ov = .bool tb ∧ Below wr.heap.size wr W2)
      case first =>
        by_cases h5 : 0 < loop
        · cases hv : (Liv.vals turn).any (Liv.bad ins loop) with
          | true =>
            have ht : tb = true := by rw [← HTB.out, hv]; simp [h5]
            have HQ := Lib.hid hv; clear hv
            subst ht
            refine wp_region_held_drew (S := (fun w' => w'.cell? ⟨w.heap.size, 0, none⟩ = some (.int .i64 fn) ∧ w'.cell? ⟨w.heap.size, 1, none⟩ = some (.int .i64 at_) ∧ w'.cell? ⟨w.heap.size, 2, none⟩ = some (.int .i64 loop) ∧ w'.cell? ⟨w.heap.size, 3, none⟩ = some (.slice IA ins.length ic) ∧ w'.cell? ⟨w.heap.size, 4, none⟩ = some (.slice EA exits.length ec) ∧ w'.cell? ⟨w.heap.size, 5, none⟩ = some (.int .i64 turn.at_) ∧ w'.cell? ⟨w.heap.size, 6, none⟩ = some (.int .i64 turn.steps) ∧ w'.cell? ⟨w.heap.size, 7, none⟩ = some (.slice TS turn.sets.length tsc) ∧ w'.cell? ⟨w.heap.size, 8, none⟩ = some (.slice TM turn.makes.length tmc) ∧ w'.cell? ⟨w.heap.size, 9, none⟩ = some (.int .i64 back.at_) ∧ w'.cell? ⟨w.heap.size, 10, none⟩ = some (.int .i64 back.steps) ∧ w'.cell? ⟨w.heap.size, 11, none⟩ = some (.slice BS back.sets.length bsc) ∧ w'.cell? ⟨w.heap.size, 12, none⟩ = some (.slice BM back.makes.length bmc))) (by kernel_rfl) ?_ (fun hHeld0 => ?_)
            · first | trivial | ((try dsimp only); (obtain ⟨p0, p1, p2, p3, p4, p5, p6, p7, p8, p9, p10, p11, p12⟩ := (HB.out.1.drew).cells13; exact ⟨p0, p1, p2, p3, p4, p5, p6, p7, p8, p9, p10, p11, p12⟩))
            refine held_take (v := ?_) 0 rfl (by kernel_rfl) (by kernel_rfl) (by kernel_rfl) (fun _ _ _ h => h) (by rfl) ?_ (by assumption) ?_
            rotate_left
            · (intro w hSw; (try dsimp only at hSw); go_simp; try with_reducible rfl)
            try simp only [Act.put, List.setIfInBounds_toArray, List.set_cons_zero, List.set_cons_succ]
            refine held_take (v := ?_) 1 rfl (by kernel_rfl) (by kernel_rfl) (by kernel_rfl) (fun _ _ _ h => h) (by rfl) ?_ (by assumption) ?_
            rotate_left
            · (intro w hSw; (try dsimp only at hSw); go_simp; try with_reducible rfl)
            try simp only [Act.put, List.setIfInBounds_toArray, List.set_cons_zero, List.set_cons_succ]
            refine held_take (v := ?_) 2 rfl (by kernel_rfl) (by kernel_rfl) (by kernel_rfl) (fun _ _ _ h => h) (by rfl) ?_ (by assumption) ?_
            rotate_left
            · (intro w hSw; (try dsimp only at hSw); go_simp; try with_reducible rfl)
            try simp only [Act.put, List.setIfInBounds_toArray, List.set_cons_zero, List.set_cons_succ]
            refine held_take (v := ?_) 3 rfl (by kernel_rfl) (by kernel_rfl) (by kernel_rfl) (fun _ _ _ h => h) (by rfl) ?_ (by assumption) ?_
            rotate_left
            · (intro w hSw; (try dsimp only at hSw); go_simp; try with_reducible rfl)
            try simp only [Act.put, List.setIfInBounds_toArray, List.set_cons_zero, List.set_cons_succ]
            refine held_take (v := ?_) 4 rfl (by kernel_rfl) (by kernel_rfl) (by kernel_rfl) (fun _ _ _ h => h) (by rfl) ?_ (by assumption) ?_
            rotate_left
            · (intro w hSw; (try dsimp only at hSw); go_simp; try with_reducible rfl)
            try simp only [Act.put, List.setIfInBounds_toArray, List.set_cons_zero, List.set_cons_succ]
            refine held_take (v := ?_) 5 rfl (by kernel_rfl) (by kernel_rfl) (by kernel_rfl) (fun _ _ _ h => h) (by rfl) ?_ (by assumption) ?_
            rotate_left
            · (intro w hSw; (try dsimp only at hSw); go_simp; try with_reducible rfl)
            try simp only [Act.put, List.setIfInBounds_toArray, List.set_cons_zero, List.set_cons_succ]
            refine held_take (v := ?_) 6 rfl (by kernel_rfl) (by kernel_rfl) (by kernel_rfl) (fun _ _ _ h => h) (by rfl) ?_ (by assumption) ?_
            rotate_left
            · (intro w hSw; (try dsimp only at hSw); go_simp; try with_reducible rfl)
            try simp only [Act.put, List.setIfInBounds_toArray, List.set_cons_zero, List.set_cons_succ]
            refine held_take (v := ?_) 8 rfl (by kernel_rfl) (by kernel_rfl) (by kernel_rfl) (fun _ _ _ h => h) (by rfl) ?_ (by assumption) ?_
            rotate_left
            · (intro w hSw; (try dsimp only at hSw); go_simp; try with_reducible rfl)
            try simp only [Act.put, List.setIfInBounds_toArray, List.set_cons_zero, List.set_cons_succ]
            refine held_take (v := ?_) 9 rfl (by kernel_rfl) (by kernel_rfl) (by kernel_rfl) (fun _ _ _ h => h) (by rfl) ?_ (by assumption) ?_
            rotate_left
            · (intro w hSw; (try dsimp only at hSw); go_simp; try with_reducible rfl)
            try simp only [Act.put, List.setIfInBounds_toArray, List.set_cons_zero, List.set_cons_succ]
            refine held_call 7 (by kernel_rfl) rfl (fun K hK => ?_)
            go_simp
            go_at_call 68; refine (lvalues_any B tsc tmc N TS TM turn _ (HA.out.1.drew) (HA.out.2.1.drew) (by show B ≤ wr.heap.size; omega) HN.out.1 HN.out.2.1).mono ?_; rintro e w1 ⟨A1, d1, rfl, ho1, hb1d⟩; have hb1 : Below wr.heap.size wr w1 := undrew hb1d; clear hb1d
            try (go_wp2_with fail)
            refine hK.out _ _ ?_ (fun hHeld1 => ?_)
            · first | trivial | ((try dsimp only); (obtain ⟨p0, p1, p2, p3, p4, p5, p6, p7, p8, p9, p10, p11, p12⟩ := (HB.out.1.fresh hb1).cells13; exact ⟨p0, p1, p2, p3, p4, p5, p6, p7, p8, p9, p10, p11, p12⟩))
            clear hK K hHeld0
            try simp only [Act.put, List.setIfInBounds_toArray, List.set_cons_zero, List.set_cons_succ]
            refine held_call 10 (by kernel_rfl) rfl (fun K hK => ?_)
            go_simp
            go_at_call 70; refine (lall_any B w1.heap.size ic d1 N _ A1 ins (Liv.vals turn) loop _ _ _ _ _ _ _ _ _ _ _ _ w1 (HA.out.2.2.1.below (hb1.mono (by omega))) (by have := hb1.size; omega) (by omega) HN.out.1 (ho1.at_ HN.out.2.2) (Nat.le_refl _) (by have := HN.out.2.1; omega)).mono ?_; rintro e w2 ⟨he, hb2⟩; obtain rfl : e = .returned (.bool false) := (by (rw [he, HQ.out]; rfl)); clear he
            try (go_wp2_with fail)
            refine hK.out _ _ ?_ (fun hHeld2 => ?_)
            · first | trivial | ((try dsimp only); (obtain ⟨p0, p1, p2, p3, p4, p5, p6, p7, p8, p9, p10, p11, p12⟩ := ((HB.out.1.fresh hb1).fresh hb2).cells13; exact ⟨p0, p1, p2, p3, p4, p5, p6, p7, p8, p9, p10, p11, p12⟩))
            clear hK K hHeld1
            try simp only [Act.put, List.setIfInBounds_toArray, List.set_cons_zero, List.set_cons_succ]
            refine held_take (v := ?_) 11 rfl (by kernel_rfl) (by kernel_rfl) (by kernel_rfl) (fun _ _ _ h => h) (by rfl) ?_ (by assumption) ?_
            rotate_left
            · (intro w hSw; (try dsimp only at hSw); go_simp; try with_reducible rfl)
            try simp only [Act.put, List.setIfInBounds_toArray, List.set_cons_zero, List.set_cons_succ]
            refine held_take (v := ?_) 12 rfl (by kernel_rfl) (by kernel_rfl) (by kernel_rfl) (fun _ _ _ h => h) (by rfl) ?_ (by assumption) ?_
            rotate_left
            · (intro w hSw; (try dsimp only at hSw); go_simp; try with_reducible rfl)
            try simp only [Act.put, List.setIfInBounds_toArray, List.set_cons_zero, List.set_cons_succ]
            refine wpAnyH_done (by kernel_rfl) ?_ _
            clear ho1
            go_wp2_with fail
            go_meet
            exact ⟨rfl, hb1.trans (hb2.mono (by have := hb1.size; omega))⟩
          | false =>
            have ht : tb = false := by rw [← HTB.out, hv]; simp
            have HQ := Lib.hid hv; clear hv
            subst ht
            refine wp_region_held_drew (S := (fun w' => w'.cell? ⟨w.heap.size, 0, none⟩ = some (.int .i64 fn) ∧ w'.cell? ⟨w.heap.size, 1, none⟩ = some (.int .i64 at_) ∧ w'.cell? ⟨w.heap.size, 2, none⟩ = some (.int .i64 loop) ∧ w'.cell? ⟨w.heap.size, 3, none⟩ = some (.slice IA ins.length ic) ∧ w'.cell? ⟨w.heap.size, 4, none⟩ = some (.slice EA exits.length ec) ∧ w'.cell? ⟨w.heap.size, 5, none⟩ = some (.int .i64 turn.at_) ∧ w'.cell? ⟨w.heap.size, 6, none⟩ = some (.int .i64 turn.steps) ∧ w'.cell? ⟨w.heap.size, 7, none⟩ = some (.slice TS turn.sets.length tsc) ∧ w'.cell? ⟨w.heap.size, 8, none⟩ = some (.slice TM turn.makes.length tmc) ∧ w'.cell? ⟨w.heap.size, 9, none⟩ = some (.int .i64 back.at_) ∧ w'.cell? ⟨w.heap.size, 10, none⟩ = some (.int .i64 back.steps) ∧ w'.cell? ⟨w.heap.size, 11, none⟩ = some (.slice BS back.sets.length bsc) ∧ w'.cell? ⟨w.heap.size, 12, none⟩ = some (.slice BM back.makes.length bmc))) (by kernel_rfl) ?_ (fun hHeld0 => ?_)
            · first | trivial | ((try dsimp only); (obtain ⟨p0, p1, p2, p3, p4, p5, p6, p7, p8, p9, p10, p11, p12⟩ := (HB.out.1.drew).cells13; exact ⟨p0, p1, p2, p3, p4, p5, p6, p7, p8, p9, p10, p11, p12⟩))
            refine held_take (v := ?_) 0 rfl (by kernel_rfl) (by kernel_rfl) (by kernel_rfl) (fun _ _ _ h => h) (by rfl) ?_ (by assumption) ?_
            rotate_left
            · (intro w hSw; (try dsimp only at hSw); go_simp; try with_reducible rfl)
            try simp only [Act.put, List.setIfInBounds_toArray, List.set_cons_zero, List.set_cons_succ]
            refine held_take (v := ?_) 1 rfl (by kernel_rfl) (by kernel_rfl) (by kernel_rfl) (fun _ _ _ h => h) (by rfl) ?_ (by assumption) ?_
            rotate_left
            · (intro w hSw; (try dsimp only at hSw); go_simp; try with_reducible rfl)
            try simp only [Act.put, List.setIfInBounds_toArray, List.set_cons_zero, List.set_cons_succ]
            refine held_take (v := ?_) 2 rfl (by kernel_rfl) (by kernel_rfl) (by kernel_rfl) (fun _ _ _ h => h) (by rfl) ?_ (by assumption) ?_
            rotate_left
            · (intro w hSw; (try dsimp only at hSw); go_simp; try with_reducible rfl)
            try simp only [Act.put, List.setIfInBounds_toArray, List.set_cons_zero, List.set_cons_succ]
            refine held_take (v := ?_) 3 rfl (by kernel_rfl) (by kernel_rfl) (by kernel_rfl) (fun _ _ _ h => h) (by rfl) ?_ (by assumption) ?_
            rotate_left
            · (intro w hSw; (try dsimp only at hSw); go_simp; try with_reducible rfl)
            try simp only [Act.put, List.setIfInBounds_toArray, List.set_cons_zero, List.set_cons_succ]
            refine held_take (v := ?_) 4 rfl (by kernel_rfl) (by kernel_rfl) (by kernel_rfl) (fun _ _ _ h => h) (by rfl) ?_ (by assumption) ?_
            rotate_left
            · (intro w hSw; (try dsimp only at hSw); go_simp; try with_reducible rfl)
            try simp only [Act.put, List.setIfInBounds_toArray, List.set_cons_zero, List.set_cons_succ]
            refine held_take (v := ?_) 5 rfl (by kernel_rfl) (by kernel_rfl) (by kernel_rfl) (fun _ _ _ h => h) (by rfl) ?_ (by assumption) ?_
            rotate_left
            · (intro w hSw; (try dsimp only at hSw); go_simp; try with_reducible rfl)
            try simp only [Act.put, List.setIfInBounds_toArray, List.set_cons_zero, List.set_cons_succ]
            refine held_take (v := ?_) 6 rfl (by kernel_rfl) (by kernel_rfl) (by kernel_rfl) (fun _ _ _ h => h) (by rfl) ?_ (by assumption) ?_
            rotate_left
            · (intro w hSw; (try dsimp only at hSw); go_simp; try with_reducible rfl)
            try simp only [Act.put, List.setIfInBounds_toArray, List.set_cons_zero, List.set_cons_succ]
            refine held_take (v := ?_) 8 rfl (by kernel_rfl) (by kernel_rfl) (by kernel_rfl) (fun _ _ _ h => h) (by rfl) ?_ (by assumption) ?_
            rotate_left
            · (intro w hSw; (try dsimp only at hSw); go_simp; try with_reducible rfl)
            try simp only [Act.put, List.setIfInBounds_toArray, List.set_cons_zero, List.set_cons_succ]
            refine held_take (v := ?_) 9 rfl (by kernel_rfl) (by kernel_rfl) (by kernel_rfl) (fun _ _ _ h => h) (by rfl) ?_ (by assumption) ?_
            rotate_left
            · (intro w hSw; (try dsimp only at hSw); go_simp; try with_reducible rfl)
            try simp only [Act.put, List.setIfInBounds_toArray, List.set_cons_zero, List.set_cons_succ]
            refine held_call 7 (by kernel_rfl) rfl (fun K hK => ?_)
            go_simp
            go_at_call 68; refine (lvalues_any B tsc tmc N TS TM turn _ (HA.out.1.drew) (HA.out.2.1.drew) (by show B ≤ wr.heap.size; omega) HN.out.1 HN.out.2.1).mono ?_; rintro e w1 ⟨A1, d1, rfl, ho1, hb1d⟩; have hb1 : Below wr.heap.size wr w1 := undrew hb1d; clear hb1d
            try (go_wp2_with fail)
            refine hK.out _ _ ?_ (fun hHeld1 => ?_)
            · first | trivial | ((try dsimp only); (obtain ⟨p0, p1, p2, p3, p4, p5, p6, p7, p8, p9, p10, p11, p12⟩ := (HB.out.1.fresh hb1).cells13; exact ⟨p0, p1, p2, p3, p4, p5, p6, p7, p8, p9, p10, p11, p12⟩))
            clear hK K hHeld0
            try simp only [Act.put, List.setIfInBounds_toArray, List.set_cons_zero, List.set_cons_succ]
            refine held_call 10 (by kernel_rfl) rfl (fun K hK => ?_)
            go_simp
            go_at_call 70; refine (lall_any B w1.heap.size ic d1 N _ A1 ins (Liv.vals turn) loop _ _ _ _ _ _ _ _ _ _ _ _ w1 (HA.out.2.2.1.below (hb1.mono (by omega))) (by have := hb1.size; omega) (by omega) HN.out.1 (ho1.at_ HN.out.2.2) (Nat.le_refl _) (by have := HN.out.2.1; omega)).mono ?_; rintro e w2 ⟨he, hb2⟩; obtain rfl : e = .returned (.bool true) := (by (rw [he, HQ.out]; rfl)); clear he
            try (go_wp2_with fail)
            refine hK.out _ _ ?_ (fun hHeld2 => ?_)
            · first | trivial | ((try dsimp only); (obtain ⟨p0, p1, p2, p3, p4, p5, p6, p7, p8, p9, p10, p11, p12⟩ := ((HB.out.1.fresh hb1).fresh hb2).cells13; exact ⟨p0, p1, p2, p3, p4, p5, p6, p7, p8, p9, p10, p11, p12⟩))
            clear hK K hHeld1
            try simp only [Act.put, List.setIfInBounds_toArray, List.set_cons_zero, List.set_cons_succ]
            refine held_take (v := ?_) 11 rfl (by kernel_rfl) (by kernel_rfl) (by kernel_rfl) (fun _ _ _ h => h) (by rfl) ?_ (by assumption) ?_
            rotate_left
            · (intro w hSw; (try dsimp only at hSw); go_simp; try with_reducible rfl)
            try simp only [Act.put, List.setIfInBounds_toArray, List.set_cons_zero, List.set_cons_succ]
            refine held_take (v := ?_) 12 rfl (by kernel_rfl) (by kernel_rfl) (by kernel_rfl) (fun _ _ _ h => h) (by rfl) ?_ (by assumption) ?_
            rotate_left
            · (intro w hSw; (try dsimp only at hSw); go_simp; try with_reducible rfl)
            try simp only [Act.put, List.setIfInBounds_toArray, List.set_cons_zero, List.set_cons_succ]
            refine wpAnyH_done (by kernel_rfl) ?_ _
            clear ho1
            go_wp2_with fail
            go_meet
            exact ⟨rfl, hb1.trans (hb2.mono (by have := hb1.size; omega))⟩
        · have ht : tb = false := by rw [← HTB.out]; simp [h5]
          have hd5 : decide (0 < loop) = false := by simpa using h5
          subst ht
          refine wp_region_held_drew (S := (fun w' => w'.cell? ⟨w.heap.size, 2, none⟩ = some (.int .i64 loop))) (by kernel_rfl) ?_ (fun hHeld0 => ?_)
          · first | trivial | ((try dsimp only); (exact c2))
          refine held_take (v := ?_) 0 rfl (by kernel_rfl) (by kernel_rfl) (by kernel_rfl) (fun _ _ _ h => h) (by rfl) ?_ (by assumption) ?_
          rotate_left
          · (intro w hSw; (try dsimp only at hSw); go_simp; try with_reducible rfl)
          try simp only [Act.put, List.setIfInBounds_toArray, List.set_cons_zero, List.set_cons_succ]
          refine held_take (v := ?_) 1 rfl (by kernel_rfl) (by kernel_rfl) (by kernel_rfl) (fun _ _ _ h => h) (by rfl) ?_ (by assumption) ?_
          rotate_left
          · (intro w hSw; (try dsimp only at hSw); go_simp; try with_reducible rfl)
          try simp only [Act.put, List.setIfInBounds_toArray, List.set_cons_zero, List.set_cons_succ]
          refine held_take (v := ?_) 2 rfl (by kernel_rfl) (by kernel_rfl) (by kernel_rfl) (fun _ _ _ h => h) (by rfl) ?_ (by assumption) ?_
          rotate_left
          · (intro w hSw; (try dsimp only at hSw); go_simp; try with_reducible rfl)
          try simp only [Act.put, List.setIfInBounds_toArray, List.set_cons_zero, List.set_cons_succ]
          refine held_take (v := ?_) 3 rfl (by kernel_rfl) (by kernel_rfl) (by kernel_rfl) (fun _ _ _ h => h) (by rfl) ?_ (by assumption) ?_
          rotate_left
          · (intro w hSw; (try dsimp only at hSw); go_simp; try with_reducible rfl)
          try simp only [Act.put, List.setIfInBounds_toArray, List.set_cons_zero, List.set_cons_succ]
          refine held_skip 4 rfl (by kernel_rfl) (by kernel_rfl) (by kernel_rfl) (fun _ _ _ h => h) (by rfl) (by assumption) ?_
          try simp only [Act.put, List.setIfInBounds_toArray, List.set_cons_zero, List.set_cons_succ]
          refine held_skip 5 rfl (by kernel_rfl) (by kernel_rfl) (by kernel_rfl) (fun _ _ _ h => h) (by rfl) (by assumption) ?_
          try simp only [Act.put, List.setIfInBounds_toArray, List.set_cons_zero, List.set_cons_succ]
          refine held_skip 6 rfl (by kernel_rfl) (by kernel_rfl) (by kernel_rfl) (fun _ _ _ h => h) (by rfl) (by assumption) ?_
          try simp only [Act.put, List.setIfInBounds_toArray, List.set_cons_zero, List.set_cons_succ]
          refine held_skip 7 rfl (by kernel_rfl) (by kernel_rfl) (by kernel_rfl) (fun _ _ _ h => h) (by rfl) (by assumption) ?_
          try simp only [Act.put, List.setIfInBounds_toArray, List.set_cons_zero, List.set_cons_succ]
          refine held_skip 8 rfl (by kernel_rfl) (by kernel_rfl) (by kernel_rfl) (fun _ _ _ h => h) (by rfl) (by assumption) ?_
          try simp only [Act.put, List.setIfInBounds_toArray, List.set_cons_zero, List.set_cons_succ]
          refine held_skip 9 rfl (by kernel_rfl) (by kernel_rfl) (by kernel_rfl) (fun _ _ _ h => h) (by rfl) (by assumption) ?_
          try simp only [Act.put, List.setIfInBounds_toArray, List.set_cons_zero, List.set_cons_succ]
          refine held_skip 10 rfl (by kernel_rfl) (by kernel_rfl) (by kernel_rfl) (fun _ _ _ h => h) (by rfl) (by assumption) ?_
          try simp only [Act.put, List.setIfInBounds_toArray, List.set_cons_zero, List.set_cons_succ]
          refine held_skip 11 rfl (by kernel_rfl) (by kernel_rfl) (by kernel_rfl) (fun _ _ _ h => h) (by rfl) (by assumption) ?_
          try simp only [Act.put, List.setIfInBounds_toArray, List.set_cons_zero, List.set_cons_succ]
          refine held_take (v := ?_) 12 rfl (by kernel_rfl) (by kernel_rfl) (by kernel_rfl) (fun _ _ _ h => h) (by rfl) ?_ (by assumption) ?_
          rotate_left
          · (intro w hSw; (try dsimp only at hSw); go_simp; try with_reducible rfl)
          try simp only [Act.put, List.setIfInBounds_toArray, List.set_cons_zero, List.set_cons_succ]
          refine wpAnyH_done (by kernel_rfl) ?_ _
          go_wp2_with fail
          go_meet
          exact ⟨rfl, (Below.refl _ _).drew⟩
      case rest =>
        obtain ⟨rfl, hbc⟩ := hcut
        rename World => wc
        have hsc := hbc.size
        cases tb with
        | true =>
          have hq3 : q = 3 := by rw [HQ2.out]; unfold Liv.tailF; rw [if_pos HTB.out]
          subst hq3
          go_wp2_with fail
          go_ret
          exact ⟨rfl, hbw.trans (hbc.mono (by omega))⟩
        | false =>
          have hq3 : q = if ((Liv.vals back).any (Liv.bad ins ins.length) || exits.any (fun x => (Liv.vals x).any (Liv.bad ins ins.length))) = true then 3
              else if (Liv.large turn || Liv.large back || exits.any Liv.large) = true then 2 else 0 := by
            rw [HQ2.out]; unfold Liv.tailF; rw [if_neg (by rw [HTB.out]; decide)]
          have HQ3 := Lib.hid hq3; clear hq3 HQ2 HTB
          have hTc := (HA.out.2.2.2.below (hbc.mono (by omega)))
          have hBc := HB.out.1.fresh hbc
          have hNc := HB.out.2.fresh hbc
          obtain ⟨p0, p1, p2, p3, p4, p5, p6, p7, p8, p9, p10, p11, p12⟩ := hBc.cells13
          have hbwc := hbw.trans (hbc.mono (by omega))
          obtain ⟨i0, hi, hz0, hz1, hz2⟩ := info_parts infoTExit
          obtain ⟨rs, hrl, hra, hrr⟩ := At.raws (n := 4) rfl hTc.e ex_one
          have hex : Exs wc B rs exits := ⟨hrl, hrr⟩
          have hrb : Exs wc B [exRaw back BS bsc BM bmc] [back] := Exs.one hTc.b
          have hrt : Exs wc B [exRaw turn TS tsc TM tmc] [turn] := Exs.one hTc.t
          have hlit := own_lit wc wc.heap.size wc.heap.size 1 31 #[.int .i64 back.at_, .int .i64 back.steps, .slice BS back.sets.length bsc, .slice BM back.makes.length bmc] [exRaw back BS bsc BM bmc] rfl rfl (Nat.le_refl _) rfl (by simp [maxLen])
          have hra2 := hra.alloc (by omega) (.cells #[.int .i64 back.at_, .int .i64 back.steps, .slice BS back.sets.length bsc, .slice BM back.makes.length bmc] 31)
          have HE := Lib.hid (And.intro hlit (And.intro hra2 (And.intro (hrb.app hex) (And.intro hrt (And.intro hTc (And.intro hrl (And.intro hBc hNc))))))); clear hlit hra hra2 hrb hex hrt hTc hrl hrr hBc hNc
          have ltc : w.heap.size < wc.heap.size := by omega
          clear c2
          go_wp2_with (at_builtin; go_must (refine wpList_app (α := Raw 4) (n := 1) (m := exits.length) (B := B) (r := rs) rfl (.tmp 55) (.tmp 57) _ rfl wc.heap.size 31 i0 _ 64 Try.underlying70 hi hz0 hz1 hz2 rfl (by decide) raw_one (by rfl) rfl HE.out.1 (by rfl) HE.out.2.1 HE.out.2.2.2.2.2.1 (by omega) (by simp only [maxLen]; omega) (by simp) ?_))
          intro A4 c4 w4 hown4 hgr4 hat4
          have hb4 : Below wc.heap.size wc w4 := ((Below.refl _ _).alloc (Nat.le_refl _) _).grown hgr4 (by simp) (fun g hg => by simp [rowOf] at hg; omega)
          have hs4 := hb4.size
          have hbw4 := hbwc.trans (hb4.mono (by omega))
          have hends4 := HE.out.2.2.1.below (hb4.mono (by omega))
          have hat : At w4 w4.heap.size A4 ([back] ++ exits) := hends4.at_ (by omega) hown4
          have hfa : ∀ x ∈ [back] ++ exits, (Liv.vals x).length * 8 ≤ 140737488355328 := by
            intro x hx; simp at hx; rcases hx with rfl | hx
            · exact H.out.2.2.2
            · exact H.out.2.1 x hx
          have hpr := predCheck (w.heap.size + 1) w.heap.size w4.heap.size ic IA ins ins.length (.int .i64 fn) (.int .i64 at_) (.int .i64 loop) (.slice EA exits.length ec) (.int .i64 turn.at_) (.int .i64 turn.steps) (.slice TS turn.sets.length tsc) (.slice TM turn.makes.length tmc) (.int .i64 back.at_) (.int .i64 back.steps) (.slice BS back.sets.length bsc) (.slice BM back.makes.length bmc) ([back] ++ exits) w4 (HE.out.2.2.2.2.2.2.2.fresh hb4) (HE.out.2.2.2.2.2.2.1.fresh hb4) ((HE.out.2.2.2.2.1.i.below (hb4.mono (by omega))).more (by omega)) (Nat.le_refl _) hil hfa
          have hcf := containsFuncEx_n A4 c4 w4.heap.size 72 (1 + exits.length) #[.pointer (some ⟨w.heap.size, 0, none⟩), .pointer (some ⟨w.heap.size + 1, 0, none⟩)] _ ([back] ++ exits) w4 (by rw [List.length_append]; rfl) hat (Nat.le_refl _) (by omega) egCheck hpr
          obtain ⟨bb, hbb⟩ : ∃ bb, ([back] ++ exits).any (fun x => (Liv.vals x).any (Liv.bad ins ins.length)) = bb := ⟨_, rfl⟩
          rw [hbb] at hcf
          have hbb2 : ((Liv.vals back).any (Liv.bad ins ins.length) || exits.any (fun x => (Liv.vals x).any (Liv.bad ins ins.length))) = bb := by rw [← hbb]; simp
          have H4 := Lib.hid (And.intro hcf (And.intro hown4 (And.intro hends4 (And.intro hbb2 hfa)))); clear hcf hown4 hends4 hbb hbb2 hat hpr hgr4 hat4 hfa
          clear p0 p1 p2 p3 p4 p5 p6 p7 p8 p9 p10 p11 p12
          go_wp2_with fail
          refine H4.out.1.mono ?_
          rintro e w5 ⟨rfl, hb5⟩
          have hs5 := hb5.size
          have hbw5 := hbw4.trans (hb5.mono (by omega))
          cases bb with
          | true =>
            have hq4 : q = 3 := by rw [HQ3.out, if_pos H4.out.2.2.2.1]
            subst hq4
            go_wp2_with fail
            go_ret
            exact ⟨rfl, hbw5⟩
          | false =>
            have hq4 : q = if (Liv.large turn || Liv.large back || exits.any Liv.large) = true then 2 else 0 := by rw [HQ3.out, if_neg (by rw [H4.out.2.2.2.1]; decide)]
            have HQ4 := Lib.hid hq4; clear hq4 HQ3
            have hBk5 := ((HE.out.2.2.2.2.2.2.1.fresh hb4).fresh hb5)
            have t5 := hBk5.cell 5 (v := .int .i64 turn.at_) rfl
            have t6 := hBk5.cell 6 (v := .int .i64 turn.steps) rfl
            have t7 := hBk5.cell 7 (v := .slice TS turn.sets.length tsc) rfl
            have t8 := hBk5.cell 8 (v := .slice TM turn.makes.length tmc) rfl
            have lt5 : w.heap.size < w5.heap.size := by omega
            have hb45 : Below B wc w5 := (hb4.mono (by omega)).trans (hb5.mono (by omega))
            have hol := (H4.out.2.1.fresh hb5).alloc (.cells #[.int .i64 turn.at_, .int .i64 turn.steps, .slice TS turn.sets.length tsc, .slice TM turn.makes.length tmc] 31)
            have hbu := At.built w5 #[.int .i64 turn.at_, .int .i64 turn.steps, .slice TS turn.sets.length tsc, .slice TM turn.makes.length tmc] 31 [exRaw turn TS tsc TM tmc] rfl (fun _ _ => trivial)
            have hll : ([exRaw back BS bsc BM bmc] ++ rs).length = 1 + exits.length := by rw [List.length_append, HE.out.2.2.2.2.2.1]; rfl
            have hen5 := (H4.out.2.2.1.below (hb5.mono (by omega))).app (HE.out.2.2.2.1.below hb45)
            have H5 := Lib.hid (And.intro hol (And.intro hbu (And.intro hll hen5))); clear hol hbu hll hen5 hBk5
            go_wp2_with (at_builtin; go_must (refine wpList_app (α := Raw 4) (n := 1 + exits.length) (m := 1) (B := w5.heap.size + 1) (r := [exRaw turn TS tsc TM tmc]) rfl (.tmp 62) (.tmp 65) _ rfl wc.heap.size 31 i0 _ 64 Try.underlying70 hi hz0 hz1 hz2 rfl (by decide) raw_one (by rfl) H5.out.2.2.1 H5.out.1 (by rfl) H5.out.2.1 rfl (by omega) (by simp only [maxLen]; omega) (by simp; omega) ?_))
            intro A6 c6 w6 hown6 hgr6 hat6
            have hb6 : Below wc.heap.size w5 w6 := ((Below.refl _ _).alloc (by omega) _).grown hgr6 (by simp; omega) (fun g hg => ((H4.out.2.1.fresh hb5).lt g hg).1)
            have hs6 : w5.heap.size + 1 ≤ w6.heap.size := by have := hgr6.size; simpa using this
            have hbw6 : Below w.heap.size w w6 := hbw5.trans (hb6.mono (by omega))
            have hen6 := H5.out.2.2.2.below (hb6.mono (by omega))
            have hown6' : Own w6 wc.heap.size 31 A6 c6 (([exRaw back BS bsc BM bmc] ++ rs) ++ [exRaw turn TS tsc TM tmc]) := by simpa using hown6
            have hat : At w6 w6.heap.size A6 (([back] ++ exits) ++ [turn]) := hen6.at_ (by omega) hown6'
            have hfl : ∀ x ∈ ([back] ++ exits) ++ [turn], x.makes.length ≤ 9223372036854775807 := by
              intro x hx
              have h8 : (Liv.vals x).length * 8 ≤ 140737488355328 := by
                rw [List.mem_append] at hx
                rcases hx with hx | hx
                · exact H4.out.2.2.2.2 x hx
                · simp at hx; subst hx; exact H.out.2.2.1
              have := Liv.vals_makes x
              omega
            have hcf := containsFuncEx_n A6 c6 w6.heap.size 73 (1 + exits.length + 1) #[] Liv.large (([back] ++ exits) ++ [turn]) w6 (by rw [List.length_append, List.length_append]; rfl) hat (Nat.le_refl _) (by omega) egExLarge (predExLarge _ _ w6 (Nat.le_refl _) hfl)
            obtain ⟨bb, hbb⟩ : ∃ bb, (([back] ++ exits) ++ [turn]).any Liv.large = bb := ⟨_, rfl⟩
            rw [hbb] at hcf
            have hbb2 : (Liv.large turn || Liv.large back || exits.any Liv.large) = bb := by
              rw [← hbb]; simp only [List.any_append, List.any_cons, List.any_nil, Bool.or_false]; cases Liv.large turn <;> cases Liv.large back <;> simp
            have H6 := Lib.hid (And.intro hcf hbb2); clear hcf hbb hbb2 hat hown6 hown6' hen6 hfl hgr6 hat6 t5 t6 t7 t8
            go_wp2_with fail
            refine H6.out.1.mono ?_
            rintro e w7 ⟨rfl, hb7⟩
            cases bb with
            | true =>
              have hq5 : q = 2 := by rw [HQ4.out, if_pos H6.out.2]
              subst hq5
              go_wp2_with fail
              go_ret
              exact ⟨rfl, hbw6.trans (hb7.mono (by omega))⟩
            | false =>
              have hq5 : q = 0 := by rw [HQ4.out, if_neg (by rw [H6.out.2]; decide)]
              subst hq5
              go_wp2_with fail
              go_ret
              exact ⟨rfl, hbw6.trans (hb7.mono (by omega))⟩

end Go.Proofs.Ytljdnadejmkaeaa
