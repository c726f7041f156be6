/- RF: Ord20. -/
import Derived.Test.YtljdnadejmkaeaaRF45
/- The closed fact 'ordered'; the law OrderBytes, walked. -/
namespace Go.Proofs.Ytljdnadejmkaeaa
open Go.RowKit

theorem At.u8_ {w : World} {B : Nat} {A : Option Addr} {l : List U8} {k : Nat} (h : At w B A l) (hk : k < l.length) :
    ∃ b o x, A = some ⟨b, o, none⟩ ∧ b < B ∧ l[k]? = some x ∧ w.cell? ⟨b, o + k, none⟩ = some (.int .u8 x.val) := by
  obtain ⟨x, hx⟩ : ∃ x, l[k]? = some x := ⟨l[k], List.getElem?_eq_getElem hk⟩
  obtain ⟨b, o, cs, rfl, hb, hc, rfl, hok⟩ := h k x hx
  have h0 := hc 0 _ rfl
  simp only [Flat.sz, Enc.sz, Nat.mul_one, Nat.add_zero] at h0
  exact ⟨b, o, x, rfl, hb, hx, h0⟩

set_option maxHeartbeats 400000 in
set_option maxRecDepth 100000 in
/-- two readings of one list of bytes are alike -/
theorem eqU8_same (A A' : Option Addr) (c c' B n : Nat) (l : List U8) (w : World) (hn : l.length = n) (h : At w B A l) (h' : At w B A' l) (hB : B ≤ w.heap.size) (hl : n ≤ 9223372036854775807) :
    Calls Try.prog 45 #[.slice A n c, .slice A' n c'] w fun e w' => e = .returned (.bool true) ∧ Below w.heap.size w w' := by
  have H := Lib.hid (And.intro h (And.intro h' hn)); clear h h' hn
  go_enter Try.func45, Try.ntmps45
  go_wp2_with fail
  go_loopg [14] n (fun gk iv wr => ∃ k : Nat, k ≤ n ∧ gk = n - k ∧ iv = .int .i64 k ∧ wr = w)
  case atStart => exact ⟨0, Nat.zero_le _, rfl, rfl, rfl⟩
  case round =>
    obtain ⟨k, hk, rfl, rfl, rfl⟩ := hrel
    by_cases hlt : k < n
    · obtain ⟨b, o, x, rfl, hb, hx, h0⟩ := H.out.1.u8_ (k := k) (by have := H.out.2.2; omega)
      obtain ⟨b', o', x', rfl, hb', hx', h0'⟩ := H.out.2.1.u8_ (k := k) (by have := H.out.2.2; omega)
      obtain rfl : x' = x := Option.some.inj (hx'.symm.trans hx)
      have hk0 : (0 : Int) ≤ (k : Int) := by omega
      have hk1 : (k : Int) < (n : Int) := by omega
      clear hx hx'
      go_wp2_with fail
      go_roundg (n - (k + 1))
      case measure => omega
      case rel => exact ⟨k + 1, by omega, rfl, by go_num, rfl⟩
    · go_wp2_with fail
      go_ret
      exact ⟨rfl, Below.refl _ _⟩

def ro1 : RO := ⟨6, 3, 0, 0, 0, -1, (0, 0)⟩
def ro2 : RO := ⟨1, 1, 3, 0, 0, -1, (0, 0)⟩
def re0 : RE := ⟨0, 0, [], []⟩
def rc1 : RC := ⟨0, 0, 0, 0, [ro1, ro2], [], re0, re0⟩
def rc2 : RC := ⟨0, 0, 0, 0, [ro2], [], re0, re0⟩
theorem err1 : Ord.err rc1 = 0 := by decide +kernel
theorem err2 : Ord.err rc2 = 3 := by decide +kernel

theorem cells14 {w : World} {g : Nat} {t : TypeId} {v0 v1 v2 v3 v4 v5 v6 v7 v8 v9 v10 v11 v12 v13 : Value} (h : Blk w g t #[v0, v1, v2, v3, v4, v5, v6, v7, v8, v9, v10, v11, v12, v13]) :
    w.cell? ⟨g, 0, none⟩ = some v0 ∧ w.cell? ⟨g, 1, none⟩ = some v1 ∧ w.cell? ⟨g, 2, none⟩ = some v2 ∧ w.cell? ⟨g, 3, none⟩ = some v3 ∧ w.cell? ⟨g, 4, none⟩ = some v4 ∧ w.cell? ⟨g, 5, none⟩ = some v5 ∧ w.cell? ⟨g, 6, none⟩ = some v6 ∧ w.cell? ⟨g, 7, none⟩ = some v7 ∧ w.cell? ⟨g, 8, none⟩ = some v8 ∧ w.cell? ⟨g, 9, none⟩ = some v9 ∧ w.cell? ⟨g, 10, none⟩ = some v10 ∧ w.cell? ⟨g, 11, none⟩ = some v11 ∧ w.cell? ⟨g, 12, none⟩ = some v12 ∧ w.cell? ⟨g, 13, none⟩ = some v13 :=
  ⟨h.cell 0 rfl, h.cell 1 rfl, h.cell 2 rfl, h.cell 3 rfl, h.cell 4 rfl, h.cell 5 rfl, h.cell 6 rfl, h.cell 7 rfl, h.cell 8 rfl, h.cell 9 rfl, h.cell 10 rfl, h.cell 11 rfl, h.cell 12 rfl, h.cell 13 rfl⟩

def roRaw (x : RO) : Raw 8 := ⟨[.int .i64 x.op, .int .i64 x.a, .int .i64 x.b, .int .i64 x.c, .int .i64 x.n, .int .i64 x.exit, .int .i64 x.k.1, .int .i64 x.k.2], rfl, by intro u hu; simp at hu; rcases hu with rfl | rfl | rfl | rfl | rfl | rfl | rfl | rfl <;> rfl⟩
theorem nilRd {α : Type} [Enc α] (w : World) (B : Nat) : Enc.rd w B [.slice none 0 0] ([] : List α) := ⟨none, 0, rfl, Nat.le_refl _, by simp [maxLen], fun _ => rfl, At.nil_⟩
theorem ro1_rd (w : World) (B : Nat) : Enc.rd w B (roRaw ro1).cs ro1 := ⟨rfl, ⟨by decide, by decide⟩, ⟨by decide, by decide⟩, ⟨by decide, by decide⟩, ⟨by decide, by decide⟩, ⟨by decide, by decide⟩, ⟨by decide, by decide⟩, ⟨by decide, by decide⟩, ⟨by decide, by decide⟩⟩
theorem ro2_rd (w : World) (B : Nat) : Enc.rd w B (roRaw ro2).cs ro2 := ⟨rfl, ⟨by decide, by decide⟩, ⟨by decide, by decide⟩, ⟨by decide, by decide⟩, ⟨by decide, by decide⟩, ⟨by decide, by decide⟩, ⟨by decide, by decide⟩, ⟨by decide, by decide⟩, ⟨by decide, by decide⟩⟩
theorem re0_rd (w : World) (B : Nat) : (⟨re0, none, 0, none, 0⟩ : ExA).rd w B := ⟨.slice none 0 0, .slice none 0 0, rfl, ⟨by decide, by decide⟩, ⟨by decide, by decide⟩, nilRd _ _, nilRd _ _⟩
theorem rc_ints {l : List RO} (h : ∀ x ∈ l, x = ro1 ∨ x = ro2) : ∀ x ∈ l, (I64 x.a ∧ I64 x.b ∧ I64 x.c) ∧ I64 x.k.1 ∧ I64 x.k.2 := by
  intro x hx
  rcases h x hx with rfl | rfl
  · exact ⟨⟨⟨by decide, by decide⟩, ⟨by decide, by decide⟩, ⟨by decide, by decide⟩⟩, ⟨by decide, by decide⟩, ⟨by decide, by decide⟩⟩
  · exact ⟨⟨⟨by decide, by decide⟩, ⟨by decide, by decide⟩, ⟨by decide, by decide⟩⟩, ⟨by decide, by decide⟩, ⟨by decide, by decide⟩⟩
theorem rc1_at (w : World) : At (w.alloc (.cells #[.int .i64 6, .int .i64 3, .int .i64 0, .int .i64 0, .int .i64 0, .int .i64 (-1), .int .i64 0, .int .i64 0, .int .i64 1, .int .i64 1, .int .i64 3, .int .i64 0, .int .i64 0, .int .i64 (-1), .int .i64 0, .int .i64 0] 146)) (w.heap.size + 1) (some ⟨w.heap.size, 0, none⟩) [ro1, ro2] :=
  at_unraw (α := RO) (xs := [ro1, ro2]) rfl (At.built w #[.int .i64 6, .int .i64 3, .int .i64 0, .int .i64 0, .int .i64 0, .int .i64 (-1), .int .i64 0, .int .i64 0, .int .i64 1, .int .i64 1, .int .i64 3, .int .i64 0, .int .i64 0, .int .i64 (-1), .int .i64 0, .int .i64 0] 146 [roRaw ro1, roRaw ro2] rfl (fun _ _ => trivial)) rfl (fun i r x hr hx => by
    match i with
    | 0 => simp at hr hx; subst hr hx; exact ro1_rd _ _
    | 1 => simp at hr hx; subst hr hx; exact ro2_rd _ _
    | i + 2 => simp at hr)
theorem rc2_at (w : World) : At (w.alloc (.cells #[.int .i64 1, .int .i64 1, .int .i64 3, .int .i64 0, .int .i64 0, .int .i64 (-1), .int .i64 0, .int .i64 0] 146)) (w.heap.size + 1) (some ⟨w.heap.size, 0, none⟩) [ro2] :=
  at_unraw (α := RO) (xs := [ro2]) rfl (At.built w #[.int .i64 1, .int .i64 1, .int .i64 3, .int .i64 0, .int .i64 0, .int .i64 (-1), .int .i64 0, .int .i64 0] 146 [roRaw ro2] rfl (fun _ _ => trivial)) rfl (fun i r x hr hx => by
    match i with
    | 0 => simp at hr hx; subst hr hx; exact ro2_rd _ _
    | i + 1 => simp at hr)

set_option maxHeartbeats 1600000 in
set_option maxRecDepth 100000 in
theorem ordered_any (w : World) : Calls Try.prog 42 #[] w fun e w' => e = .returned (.bool true) ∧ Below w.heap.size w w' := by
  go_enter Try.func42, Try.ntmps42
  go_upto_region 3 with fail
  refine wp_world (fun V => Blk V (w.heap.size + 1) 104 #[.int .i64 0, .int .i64 0, .int .i64 0, .int .i64 0, .slice (some ⟨w.heap.size, 0, none⟩) 2 2, .slice none 0 0, .int .i64 0, .int .i64 0, .slice none 0 0, .slice none 0 0, .int .i64 0, .int .i64 0, .slice none 0 0, .slice none 0 0] ∧ Blk V (w.heap.size + 3) 104 #[.int .i64 0, .int .i64 0, .int .i64 0, .int .i64 0, .slice (some ⟨w.heap.size + 2, 0, none⟩) 1 1, .slice none 0 0, .int .i64 0, .int .i64 0, .slice none 0 0, .slice none 0 0, .int .i64 0, .int .i64 0, .slice none 0 0, .slice none 0 0] ∧ CdAt V (w.heap.size + 4) rc1 (some ⟨w.heap.size, 0, none⟩) none none none none none 0 0 0 0 ∧ CdAt V (w.heap.size + 4) rc2 (some ⟨w.heap.size + 2, 0, none⟩) none none none none none 0 0 0 0 ∧ Below w.heap.size w V ∧ w.heap.size + 4 ≤ V.heap.size) ⟨?_, ?_, ?_, ?_, ?_, ?_⟩ ?_
  · exact ((Blk.at_ _ _ _ (by simp)).alloc _).alloc _
  · exact Blk.at_ _ _ _ (by simp)
  · refine ⟨?_, At.nil_, re0_rd _ _, re0_rd _ _⟩
    exact (((rc1_at w).alloc (by simp; try omega) _).alloc (by simp; try omega) _ |>.alloc (by simp; try omega) _).more (by omega)
  · refine ⟨?_, At.nil_, re0_rd _ _, re0_rd _ _⟩
    have := rc2_at ((w.alloc (.cells #[.int .i64 6, .int .i64 3, .int .i64 0, .int .i64 0, .int .i64 0, .int .i64 (-1), .int .i64 0, .int .i64 0, .int .i64 1, .int .i64 1, .int .i64 3, .int .i64 0, .int .i64 0, .int .i64 (-1), .int .i64 0, .int .i64 0] 146)).alloc (.cells #[.int .i64 0, .int .i64 0, .int .i64 0, .int .i64 0, .slice (some ⟨w.heap.size, 0, none⟩) 2 2, .slice none 0 0, .int .i64 0, .int .i64 0, .slice none 0 0, .slice none 0 0, .int .i64 0, .int .i64 0, .slice none 0 0, .slice none 0 0] 104))
    simp only [World.size_alloc] at this
    exact (this.alloc (by simp; try omega) _).more (by omega)
  · exact ((((Below.refl _ _).alloc (Nat.le_refl _) _).alloc (by simp) _).alloc (by simp; omega) _).alloc (by simp; omega) _
  · simp
  rintro V ⟨hB1, hB2, hC1, hC2, hb0, hs0⟩
  have H := Lib.hid (And.intro hB1 (And.intro hB2 (And.intro hC1 hC2))); clear hB1 hB2 hC1 hC2
  go_wp2_with (refine wpList_ld rfl 104 (.tmp 1) rfl (w.heap.size + 1) rfl H.out.1 Try.underlying104 rfl (by kernel_rfl) ?_)
  refine (ocheck_any (w.heap.size + 4) 2 0 0 0 0 0 (some ⟨w.heap.size, 0, none⟩) none none none none none rc1 V H.out.2.2.1 hs0 (by decide) (by decide) (rc_ints (by simp [rc1]))).mono ?_
  rintro e w1 ⟨rfl, hb1⟩
  rw [err1]
  have hs1 := hb1.size
  have hk2 := H.out.2.1.fresh hb1
  have hcd := H.out.2.2.2.below (hb1.mono hs0)
  have H1 := Lib.hid (And.intro hk2 hcd); clear hk2 hcd
  obtain ⟨u0, u1, u2, u3, u4, u5, u6, u7, u8, u9, u10, u11, u12, u13⟩ := cells14 H1.out.1
  have lt1 : w.heap.size + 3 < w1.heap.size := by omega
  go_wp2_with fail
  clear u0 u1 u2 u3 u4 u5 u6 u7 u8 u9 u10 u11 u12 u13
  refine (ocheck_any (w.heap.size + 4) 1 0 0 0 0 0 (some ⟨w.heap.size + 2, 0, none⟩) none none none none none rc2 w1 H1.out.2 (by omega) (by decide) (by decide) (rc_ints (by simp [rc2]))).mono ?_
  rintro e w2 ⟨rfl, hb2⟩
  rw [err2]
  go_wp2_with fail
  go_ret
  exact ⟨rfl, (hb0.trans (hb1.mono (by omega))).trans (hb2.mono (by omega))⟩

set_option maxHeartbeats 1600000 in
set_option maxRecDepth 100000 in
theorem orderBytes_any (B oc ec tsc tmc bsc bmc : Nat) (OA EA TS TM BS BM : Option Addr) (c : RC) (w : World) (h : CdAt w B c OA EA TS TM BS BM tsc tmc bsc bmc) (hB : B ≤ w.heap.size) (hol : c.orders.length ≤ 9223372036854775807) (hel : (c.exits.length + 2) * 64 ≤ 140737488355328)
    (hci : I64 c.fn ∧ I64 c.at_ ∧ I64 c.loop ∧ I64 c.slots) :
    Calls Try.prog 11 #[.agg #[.int .i64 c.fn, .int .i64 c.at_, .int .i64 c.loop, .int .i64 c.slots, .slice OA c.orders.length oc, .slice EA c.exits.length ec, .int .i64 c.turn.at_, .int .i64 c.turn.steps, .slice TS c.turn.sets.length tsc, .slice TM c.turn.makes.length tmc, .int .i64 c.back.at_, .int .i64 c.back.steps, .slice BS c.back.sets.length bsc, .slice BM c.back.makes.length bmc]] w fun e w' => e = .returned (.bool true) ∧ Below w.heap.size w w' := by
  have hoi : ∀ x ∈ c.orders, ((I64 x.a ∧ I64 x.b ∧ I64 x.c) ∧ I64 x.k.1 ∧ I64 x.k.2) ∧ I64 x.op ∧ I64 x.n ∧ I64 x.exit := fun x hx => by
    obtain ⟨i, hi⟩ := List.mem_iff_getElem?.1 hx
    obtain ⟨b, o, y, -, -, hy, -, -, -, -, -, -, -, -, j0, j1, j2, j3, j4, j5, j6, j7⟩ := h.1.rO_ (List.getElem?_eq_some_iff.1 hi).1
    obtain rfl : y = x := Option.some.inj (hy.symm.trans hi)
    exact ⟨⟨⟨j1, j2, j3⟩, j6, j7⟩, j0, j4, j5⟩
  have H := Lib.hid (And.intro h (And.intro (fun x hx => (hoi x hx).1) (And.intro hci (fun x hx => (hoi x hx).2)))); clear h hoi hci
  obtain ⟨er, her⟩ : ∃ er, Ord.err c = er := ⟨_, rfl⟩
  have HE := Lib.hid her; clear her
  go_enter Try.func11, Try.ntmps11
  go_wp2_with fail
  refine calls_world (fun W => Blk W w.heap.size 104 #[.int .i64 c.fn, .int .i64 c.at_, .int .i64 c.loop, .int .i64 c.slots, .slice OA c.orders.length oc, .slice EA c.exits.length ec, .int .i64 c.turn.at_, .int .i64 c.turn.steps, .slice TS c.turn.sets.length tsc, .slice TM c.turn.makes.length tmc, .int .i64 c.back.at_, .int .i64 c.back.steps, .slice BS c.back.sets.length bsc, .slice BM c.back.makes.length bmc] ∧ Below w.heap.size w W ∧ w.heap.size + 1 ≤ W.heap.size) ⟨Blk.new _ _ _, (Below.refl _ _).alloc (Nat.le_refl _) _, by simp⟩ ?_
  rintro W ⟨hC, hb0, hs0⟩
  refine (ordered_any W).mono ?_
  rintro e w1 ⟨rfl, hb1⟩
  have hs1 := hb1.size
  have hbl1 := hb0.trans (hb1.mono (by omega))
  have H1 := Lib.hid (And.intro (hC.fresh hb1) (H.out.1.below (hbl1.mono hB))); clear hC
  go_wp2_with (refine wpList_ld rfl 104 (.tmp 1) rfl w.heap.size rfl H1.out.1 Try.underlying104 rfl (by kernel_rfl) ?_)
  refine (encode_any B oc ec tsc tmc bsc bmc OA EA TS TM BS BM c w1 H1.out.2 (by omega) hol hel H.out.2.1 H.out.2.2.1 H.out.2.2.2).mono ?_
  rintro e w2 ⟨hb2, hp⟩
  rw [HE.out] at hp
  have hs2 := hb2.size
  have hbl2 := hbl1.trans (hb2.mono (by omega))
  have hC2 := H1.out.1.fresh hb2
  have hCd2 := H.out.1.below (hbl2.mono hB)
  rcases hp with ⟨rfl, A, d, rfl, hown⟩ | ⟨h0, rfl⟩
  · obtain ⟨m, hm⟩ : ∃ m, (Ord.bys (Ord.numsB (Ord.codeNums c))).length = m := ⟨_, rfl⟩
    rw [hm]
    have H2 := Lib.hid (And.intro hC2 (And.intro hCd2 (And.intro hown hm))); clear hC2 hCd2 hown hm
    go_wp2_with (refine wpList_ld rfl 104 (.tmp 1) rfl w.heap.size rfl H2.out.1 Try.underlying104 rfl (by kernel_rfl) ?_)
    refine (ocheck_any B oc ec tsc tmc bsc bmc OA EA TS TM BS BM c w2 H2.out.2.1 (by omega) hol hel H.out.2.1).mono ?_
    rintro e w3 ⟨rfl, hb3⟩
    rw [HE.out]
    have hs3 := hb3.size
    have hbl3 := hbl2.trans (hb3.mono (by omega))
    have H3 := Lib.hid (And.intro (H2.out.1.fresh hb3) (And.intro (H.out.1.below (hbl3.mono hB)) (H2.out.2.2.1.fresh hb3)))
    obtain ⟨u0, u1, u2, u3, u4, u5, u6, u7, u8, u9, u10, u11, u12, u13⟩ := cells14 H3.out.1
    have lt3 : w.heap.size < w3.heap.size := by omega
    go_wp2_with fail
    clear u0 u1 u2 u3 u4 u5 u6 u7 u8 u9 u10 u11 u12 u13
    refine (rcode_any B oc ec tsc tmc bsc bmc OA EA TS TM BS BM c w3 H3.out.2.1 (by omega) (Ord.err_ok HE.out) H.out.2.2.1).mono ?_
    rintro e w4 ⟨A4, d4, m4, rfl, hm4, ho4, hb4⟩
    have hs4 := hb4.size
    obtain rfl : m4 = m := hm4.symm.trans H2.out.2.2.2
    have hbl4 := hbl3.trans (hb4.mono (by omega))
    have hmx : m4 ≤ 9223372036854775807 := by have := ho4.le_cap; unfold maxLen at this; omega
    have H4 := Lib.hid (And.intro ((H3.out.2.2.fresh hb4).at_ (bys_okk _)) (And.intro (ho4.at_ (bys_okk _)) hm4)); clear ho4 hm4
    go_wp2_with fail
    refine (eqU8_same A A4 d d4 w4.heap.size m4 _ w4 H4.out.2.2 H4.out.1 H4.out.2.1 (Nat.le_refl _) hmx).mono ?_
    rintro e w5 ⟨rfl, hb5⟩
    go_wp2_with fail
    go_ret
    exact ⟨rfl, hbl4.trans (hb5.mono (by omega))⟩
  · have hne : (er != 0) = true := by simp [h0]
    have H2 := Lib.hid (And.intro hC2 (And.intro hCd2 h0)); clear hC2 hCd2 h0
    go_wp2_with (refine wpList_ld rfl 104 (.tmp 1) rfl w.heap.size rfl H2.out.1 Try.underlying104 rfl (by kernel_rfl) ?_)
    refine (ocheck_any B oc ec tsc tmc bsc bmc OA EA TS TM BS BM c w2 H2.out.2.1 (by omega) hol hel H.out.2.1).mono ?_
    rintro e w3 ⟨rfl, hb3⟩
    rw [HE.out]
    go_wp2_with fail
    go_ret
    exact ⟨ret_bool (by simp), hbl2.trans (hb3.mono (by omega))⟩

end Go.Proofs.Ytljdnadejmkaeaa
